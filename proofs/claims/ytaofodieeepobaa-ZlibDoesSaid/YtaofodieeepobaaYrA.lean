/- Part of a proof about the given program: YrA. -/
import Derived.Test.YtaofodieeepobaaBig
import Derived.Test.YtaofodieeepobaaZR
import Derived.KernelRfl
import Derived.Test.YtaofodieeepobaaArr
namespace Go.Ev.Zlib
abbrev Tok := Int × Int × Int
def isT (t : Tok) : Bool := if t.2.1 = 0 then decide (t.2.2 = 0 ∧ 0 ≤ t.1 ∧ t.1 ≤ 255) else decide (t.1 = 0 ∧ 3 ≤ t.2.1 ∧ t.2.1 ≤ 258 ∧ 1 ≤ t.2.2 ∧ t.2.2 ≤ 32768)
theorem isT_iff (t : Tok) : isT t = true ↔ (t.2.1 = 0 ∧ t.2.2 = 0 ∧ 0 ≤ t.1 ∧ t.1 ≤ 255) ∨ (t.1 = 0 ∧ 3 ≤ t.2.1 ∧ t.2.1 ≤ 258 ∧ 1 ≤ t.2.2 ∧ t.2.2 ≤ 32768) := by
  unfold isT
  by_cases h : t.2.1 = 0
  · rw [if_pos h, decide_eq_true_eq]; omega
  · rw [if_neg h, decide_eq_true_eq]; omega
theorem f57_eqn (x n k : Int) : f57 (x, n, k, ()) = some (isT (x, n, k), ()) := by
  unfold f57 isT
  dsimp only
  rw [Int.fdiv_eq_ediv_of_nonneg _ (by omega)]
  by_cases h1 : n = 0
  · rw [if_pos (beq_iff_eq.2 h1), if_pos h1]
    by_cases h2 : k = 0
    · rw [if_pos (beq_iff_eq.2 h2)]
      refine congrArg (fun q => some (q, ())) ?_
      rw [Bool.eq_iff_iff, beq_iff_eq, decide_eq_true_eq]; omega
    · rw [if_neg (fun h => h2 (beq_iff_eq.1 h)), decide_eq_false (fun h => h2 h.1)]
  · rw [if_neg (fun h => h1 (beq_iff_eq.1 h)), if_neg h1]
    by_cases h2 : x = 0
    · rw [if_pos (beq_iff_eq.2 h2)]
      by_cases h3 : 3 ≤ n
      · rw [if_pos (decide_eq_true h3)]
        by_cases h4 : n ≤ 258
        · rw [if_pos (decide_eq_true h4)]
          by_cases h5 : 1 ≤ k
          · rw [if_pos (decide_eq_true h5)]
            refine congrArg (fun q => some (q, ())) ?_
            rw [Bool.eq_iff_iff, decide_eq_true_eq, decide_eq_true_eq]; omega
          · rw [if_neg (fun h => h5 (of_decide_eq_true h)), decide_eq_false (fun h => h5 h.2.2.2.1)]
        · rw [if_neg (fun h => h4 (of_decide_eq_true h)), decide_eq_false (fun h => h4 h.2.2.1)]
      · rw [if_neg (fun h => h3 (of_decide_eq_true h)), decide_eq_false (fun h => h3 h.2.1)]
    · rw [if_neg (fun h => h2 (beq_iff_eq.1 h)), decide_eq_false (fun h => h2 h.1)]
theorem f44_eqn (x n k : Int) : f44 (x, n, k, ()) = some (isT (x, n, k), ()) := by
  unfold f44 isT
  dsimp only
  by_cases h1 : n = 0
  · rw [if_pos (beq_iff_eq.2 h1), if_pos h1]
    unfold b44_1
    dsimp only
    by_cases h2 : k = 0
    · rw [if_pos (beq_iff_eq.2 h2)]
      by_cases h3 : 0 ≤ x
      · rw [if_pos (decide_eq_true h3), Option.bind_some, Sum.elim_inl]
        refine congrArg (fun q => some (q, ())) ?_
        rw [Bool.eq_iff_iff, decide_eq_true_eq, decide_eq_true_eq]; omega
      · rw [if_neg (fun h => h3 (of_decide_eq_true h)), Option.bind_some, Sum.elim_inl, decide_eq_false (fun h => h3 h.2.1)]
    · rw [if_neg (fun h => h2 (beq_iff_eq.1 h)), Option.bind_some, Sum.elim_inl, decide_eq_false (fun h => h2 h.1)]
  · rw [if_neg (fun h => h1 (beq_iff_eq.1 h)), if_neg h1]
    by_cases h3 : 3 ≤ n
    · rw [if_pos (decide_eq_true h3)]
      by_cases h4 : n ≤ 258
      · rw [if_pos (decide_eq_true h4)]
        by_cases h5 : 1 ≤ k
        · rw [if_pos (decide_eq_true h5)]
          by_cases h6 : k ≤ 32768
          · rw [if_pos (decide_eq_true h6)]
            refine congrArg (fun q => some (q, ())) ?_
            rw [Bool.eq_iff_iff, beq_iff_eq, decide_eq_true_eq]; omega
          · rw [if_neg (fun h => h6 (of_decide_eq_true h)), decide_eq_false (fun h => h6 h.2.2.2.2)]
        · rw [if_neg (fun h => h5 (of_decide_eq_true h)), decide_eq_false (fun h => h5 h.2.2.2.1)]
      · rw [if_neg (fun h => h4 (of_decide_eq_true h)), decide_eq_false (fun h => h4 h.2.2.1)]
    · rw [if_neg (fun h => h3 (of_decide_eq_true h)), decide_eq_false (fun h => h3 h.2.1)]
theorem drop_getD {α : Type} {l : List α} {i : Nat} (h : i < l.length) (d : α) : l.drop i = l.getD i d :: l.drop (i + 1) := by
  rw [List.getD_eq_getElem?_getD, List.getElem?_eq_getElem h]
  exact List.drop_eq_getElem_cons h
theorem f56_eqn (x n k : Int) : f56 (x, n, k, ()) = some (!(isT (x, n, k)), ()) := by
  unfold f56
  dsimp only
  rw [f57_eqn, Option.bind_some]
theorem l61_b_1_spec {l : List Tok} (hl : l.length < 2 ^ 60) : ∀ (k i : Nat), l.length < i + k → i ≤ l.length →
    ((l.drop i).all isT = true ∧ loopN g61_b_1 o61_b_1 b61_b_1 k (l, ((l.length : Nat) : Int), (i : Int), ()) = some (.inl ())) ∨
    ((l.drop i).all isT = false ∧ ∃ j : Nat, loopN g61_b_1 o61_b_1 b61_b_1 k (l, ((l.length : Nat) : Int), (i : Int), ()) = some (.inr (.inl ((j : Int), ())))) := by
  intro k
  induction k with
  | zero => intro i h1 h2; omega
  | succ k ih =>
    intro i h1 h2
    rw [loopN_succ]
    generalize hL : loopN g61_b_1 o61_b_1 b61_b_1 k = L at ih ⊢
    unfold b61_b_1
    dsimp only
    rcases Nat.lt_or_ge i l.length with h | h
    · rw [drop_getD h (0, 0, 0), if_pos (by rw [decide_eq_true_eq]; omega), if_pos (by omega), if_pos (by omega), Int.toNat_natCast, f56_eqn, Option.bind_some]
      dsimp only
      rw [List.all_cons, show (l.getD i (0, 0, 0)) = ((l.getD i (0, 0, 0)).1, (l.getD i (0, 0, 0)).2.1, (l.getD i (0, 0, 0)).2.2) from rfl]
      cases hT : isT ((l.getD i (0, 0, 0)).1, (l.getD i (0, 0, 0)).2.1, (l.getD i (0, 0, 0)).2.2) with
      | true =>
        rw [Bool.true_and, if_neg (by decide), Option.bind_some, Sum.elim_inl, show IntKind.wrap .i64 ((i : Int) + 1) = ((i + 1 : Nat) : Int) by rw [wrap_i64 (by omega)]; omega]
        exact ih (i + 1) (by omega) (by omega)
      | false =>
        rw [Bool.false_and, if_pos (by decide)]
        exact .inr ⟨rfl, i, rfl⟩
    · rw [List.drop_of_length_le h, if_neg (by rw [decide_eq_true_eq]; omega)]
      exact .inl ⟨rfl, rfl⟩
theorem f29_b_eqn {l : List Tok} (hl : l.length < 2 ^ 60) : f29_b (l, ()) = some (!(l.all isT), ()) := by
  have h := l61_b_1_spec hl 18446744073709551616 0 (by omega) (by omega)
  rw [List.drop_zero] at h
  unfold f29_b f61_b
  dsimp only
  rw [show l61_b_1 = loopN g61_b_1 o61_b_1 b61_b_1 18446744073709551616 from rfl]
  rcases h with ⟨h1, h2⟩ | ⟨h1, j, h2⟩
  · have h2' : loopN g61_b_1 o61_b_1 b61_b_1 18446744073709551616 (l, ((l.length : Nat) : Int), 0, ()) = _ := h2
    rw [h2', h1, Option.bind_some]
    rfl
  · have h2' : loopN g61_b_1 o61_b_1 b61_b_1 18446744073709551616 (l, ((l.length : Nat) : Int), 0, ()) = _ := h2
    rw [h2', h1, Option.bind_some, Sum.elim_inr, Sum.elim_inl, Option.bind_some]
    dsimp only
    rw [decide_eq_true (by omega)]
    rfl
def cpy (back : Nat) : Nat → List Int → List Int
  | 0, o => o
  | n + 1, o => cpy back n (o ++ [o.getD (o.length - back) 0])
theorem length_cpy (back : Nat) : ∀ (n : Nat) (o : List Int), (cpy back n o).length = o.length + n
  | 0, o => rfl
  | n + 1, o => by rw [cpy, length_cpy back n, List.length_append, List.length_singleton]; omega
def exp (most : Int) : List Tok → List Int → List Int ⊕ Int
  | [], out => .inl out
  | t :: l, out => if t.2.2 > ((out.length : Nat) : Int) then .inr 4 else if ((out.length : Nat) : Int) + max t.2.1 1 > most then .inr 2 else
      exp most l (cpy t.2.2.toNat t.2.1.toNat (if t.2.1 = 0 then out ++ [t.1] else out))
theorem full {α : Type} (o : List α) : List.take o.length (List.drop 0 o) = o := by rw [List.drop_zero, List.take_length]
theorem one_set {x : Int} : List.take 1 (List.drop 0 (List.set (List.replicate 1 (0 : Int)) 0 x)) = [x] := rfl
theorem l25_2_spec (most : Int) (l : List Tok) (ln i : Int) (L : Nat) (t1 t2 bk : Int) : ∀ (k r j : Nat) (out : List Int), r < k → j + r = L → L ≤ 1000 → out.length + r ≤ 2000000 → (0 < r → 1 ≤ bk ∧ bk ≤ ((out.length : Nat) : Int)) →
    loopN g25_2 o25_2 b25_2 k (most, l, ln, i, (L : Int), (j : Int), out, t1, t2, bk, ()) = some (.inl (most, l, ln, i, cpy bk.toNat r out, ())) := by
  intro k
  induction k with
  | zero => intro r j out h1; omega
  | succ k ih =>
    intro r j out h1 h2 h3 h4 h5
    rw [loopN_succ]
    generalize hL : loopN g25_2 o25_2 b25_2 k = LL at ih ⊢
    unfold b25_2
    dsimp only
    cases r with
    | zero => rw [if_neg (by rw [decide_eq_true_eq]; omega), if_pos rfl]; rfl
    | succ r =>
      have hb := h5 (by omega)
      have w1 : IntKind.wrap .i64 (((out.length : Nat) : Int) - bk) = ((out.length - bk.toNat : Nat) : Int) := by rw [wrap_i64 (by omega)]; omega
      rw [if_pos (by rw [decide_eq_true_eq]; omega), w1, if_pos (by omega), if_pos (by omega), Int.toNat_natCast, Nat.zero_add, one_set, full, if_pos (by rw [List.length_singleton]; omega), if_pos rfl, Option.bind_some, Sum.elim_inl,
        show IntKind.wrap .i64 ((j : Int) + 1) = ((j + 1 : Nat) : Int) by rw [wrap_i64 (by omega)]; omega]
      exact ih r (j + 1) _ (by omega) (by omega) h3 (by rw [List.length_append, List.length_singleton]; omega) (fun _ => by rw [List.length_append, List.length_singleton]; omega)
def expOut : List Int ⊕ Int → List Int ⊕ (List Int × Int)
  | .inl o => .inl o
  | .inr e => .inr ([], e)
theorem l25_1_spec {most : Int} (hm : most ≤ 1048576) {l : List Tok} (hl : l.length < 2 ^ 60) (ht : l.all isT = true) : ∀ (k i : Nat) (out : List Int), l.length < i + k → i ≤ l.length → ((out.length : Nat) : Int) ≤ most →
    loopN g25_1 o25_1 b25_1 k (most, l, ((l.length : Nat) : Int), (i : Int), out, ()) = (match exp most (l.drop i) out with | .inl o => some (.inl (o, ())) | .inr e => some (.inr (.inl ([], e, ())))) := by
  intro k
  induction k with
  | zero => intro i out h1 h2; omega
  | succ k ih =>
    intro i out h1 h2 h3
    rw [loopN_succ]
    generalize hL : loopN g25_1 o25_1 b25_1 k = LL at ih ⊢
    unfold b25_1
    dsimp only
    rcases Nat.lt_or_ge i l.length with h | h
    · have hT : isT (l.getD i (0, 0, 0)) = true := by
        rw [List.all_eq_true] at ht
        refine ht _ ?_
        rw [List.getD_eq_getElem?_getD, List.getElem?_eq_getElem h]
        exact List.getElem_mem _
      rw [isT_iff] at hT
      rw [drop_getD h (0, 0, 0), if_pos (by rw [decide_eq_true_eq]; omega), if_pos (by omega), if_pos (by omega), Int.toNat_natCast]
      generalize l.getD i (0, 0, 0) = t at hT ⊢
      obtain ⟨tb, tl, tk⟩ := t
      unfold exp
      dsimp only at hT ⊢
      by_cases c1 : tk > ((out.length : Nat) : Int)
      · rw [if_pos (decide_eq_true c1), if_pos c1]; rfl
      · rw [if_neg (fun h => c1 (of_decide_eq_true h)), if_neg c1]
        have w1 : IntKind.wrap .i64 (((out.length : Nat) : Int) + max tl 1) = ((out.length : Nat) : Int) + max tl 1 := wrap_i64 (by omega)
        rw [w1]
        by_cases c2 : ((out.length : Nat) : Int) + max tl 1 > most
        · rw [if_pos (decide_eq_true c2), if_pos c2]; rfl
        · rw [if_neg (fun h => c2 (of_decide_eq_true h)), if_neg c2]
          have hL2 : l25_2 = loopN g25_2 o25_2 b25_2 18446744073709551616 := rfl
          by_cases c3 : tl = 0
          · have hr := l25_2_spec most l ((l.length : Nat) : Int) (i : Int) 0 tb tl tk 18446744073709551616 0 0 (out ++ [tb]) (by omega) rfl (by omega) (by rw [List.length_append, List.length_singleton]; omega) (fun h => by omega)
            have w2 : IntKind.wrap .u8 tb = tb := by rw [wrap_u8]; omega
            rw [if_pos (beq_iff_eq.2 c3), if_pos c3, w2, one_set, full, if_pos (by rw [List.length_singleton]; omega), if_pos rfl, hL2]
            subst c3
            have hr' : loopN g25_2 o25_2 b25_2 18446744073709551616 (most, l, ((l.length : Nat) : Int), (i : Int), 0, 0, out ++ [tb], tb, 0, tk, ()) = _ := hr
            generalize loopN g25_2 o25_2 b25_2 18446744073709551616 (most, l, ((l.length : Nat) : Int), (i : Int), 0, 0, out ++ [tb], tb, 0, tk, ()) = X at hr' ⊢
            subst hr'
            rw [Option.bind_some, Sum.elim_inl]
            dsimp only
            rw [if_pos rfl, Option.bind_some, Sum.elim_inl, show IntKind.wrap .i64 ((i : Int) + 1) = ((i + 1 : Nat) : Int) by rw [wrap_i64 (by omega)]; omega]
            exact ih (i + 1) _ (by omega) (by omega) (by rw [length_cpy, List.length_append, List.length_singleton]; omega)
          · have hr := l25_2_spec most l ((l.length : Nat) : Int) (i : Int) tl.toNat tb tl tk 18446744073709551616 tl.toNat 0 out (by omega) (by omega) (by omega) (by omega) (fun _ => by omega)
            rw [if_neg (fun h => c3 (beq_iff_eq.1 h)), if_neg c3, if_pos rfl, hL2]
            rw [show ((tl.toNat : Nat) : Int) = tl by omega] at hr
            have hr' : loopN g25_2 o25_2 b25_2 18446744073709551616 (most, l, ((l.length : Nat) : Int), (i : Int), tl, 0, out, tb, tl, tk, ()) = _ := hr
            generalize loopN g25_2 o25_2 b25_2 18446744073709551616 (most, l, ((l.length : Nat) : Int), (i : Int), tl, 0, out, tb, tl, tk, ()) = X at hr' ⊢
            subst hr'
            rw [Option.bind_some, Sum.elim_inl]
            dsimp only
            rw [if_pos rfl, Option.bind_some, Sum.elim_inl, show IntKind.wrap .i64 ((i : Int) + 1) = ((i + 1 : Nat) : Int) by rw [wrap_i64 (by omega)]; omega]
            exact ih (i + 1) _ (by omega) (by omega) (by rw [length_cpy]; omega)
    · rw [List.drop_of_length_le h, if_neg (by rw [decide_eq_true_eq]; omega), if_pos rfl]
      rfl
def expd (l : List Tok) (most : Int) : List Int × Int × Unit :=
  if most < 0 ∨ 1048576 < most ∨ l.all isT = false then ([], 1, ()) else match exp most l [] with | .inl o => (o, 0, ()) | .inr e => ([], e, ())
theorem f25_eqn {l : List Tok} (hl : l.length < 2 ^ 60) (most : Int) : f25 (l, most, ()) = some (expd l most) := by
  unfold f25 expd
  dsimp only
  by_cases c1 : most < 0
  · rw [if_pos (decide_eq_true c1), if_pos (.inl c1)]
  · rw [if_neg (fun h => c1 (of_decide_eq_true h))]
    by_cases c2 : 1048576 < most
    · rw [if_pos (decide_eq_true c2), if_pos (.inr (.inl c2))]
    · rw [if_neg (fun h => c2 (of_decide_eq_true h)), f29_b_eqn hl, Option.bind_some]
      dsimp only
      cases hT : l.all isT with
      | false => rw [if_pos (show (!false) = true from rfl), if_pos (.inr (.inr rfl))]
      | true =>
        rw [if_neg (show ¬ (!true) = true by decide), if_neg (by rintro (h | h | h) <;> first | exact c1 h | exact c2 h | cases h)]
        have h := l25_1_spec (by omega : most ≤ 1048576) hl hT 18446744073709551616 0 [] (by omega) (by omega) (by simp only [List.length_nil]; omega)
        have h' : loopN g25_1 o25_1 b25_1 18446744073709551616 (most, l, ((l.length : Nat) : Int), 0, [], ()) = _ := h
        rw [show l25_1 = loopN g25_1 o25_1 b25_1 18446744073709551616 from rfl, h', List.drop_zero]
        cases exp most l [] with
        | inl o => exact congrArg (fun q => some (q, (0 : Int), ())) (full o)
        | inr e => rfl
theorem l27_1_spec {l : List Tok} (hl : l.length < 2 ^ 60) (most : Int) : ∀ (k i : Nat), l.length < i + k → i ≤ l.length →
    ((l.drop i).all isT = true ∧ loopN g27_1 o27_1 b27_1 k (l, most, (i : Int), ()) = some (.inl (l, most, ()))) ∨
    ((l.drop i).all isT = false ∧ loopN g27_1 o27_1 b27_1 k (l, most, (i : Int), ()) = some (.inr (.inl ([], 1, ())))) := by
  intro k
  induction k with
  | zero => intro i h1 h2; omega
  | succ k ih =>
    intro i h1 h2
    rw [loopN_succ]
    generalize hL : loopN g27_1 o27_1 b27_1 k = L at ih ⊢
    unfold b27_1
    dsimp only
    rcases Nat.lt_or_ge i l.length with h | h
    · rw [drop_getD h (0, 0, 0), if_pos (by rw [decide_eq_true_eq]; omega), if_pos (by omega), if_pos (by omega), Int.toNat_natCast, f44_eqn, Option.bind_some]
      dsimp only
      rw [List.all_cons, show (l.getD i (0, 0, 0)) = ((l.getD i (0, 0, 0)).1, (l.getD i (0, 0, 0)).2.1, (l.getD i (0, 0, 0)).2.2) from rfl]
      cases hT : isT ((l.getD i (0, 0, 0)).1, (l.getD i (0, 0, 0)).2.1, (l.getD i (0, 0, 0)).2.2) with
      | true =>
        rw [Bool.true_and, if_neg (by decide), Option.bind_some, Sum.elim_inl, show IntKind.wrap .i64 ((i : Int) + 1) = ((i + 1 : Nat) : Int) by rw [wrap_i64 (by omega)]; omega]
        exact ih (i + 1) (by omega) (by omega)
      | false =>
        rw [Bool.false_and, if_pos (by decide)]
        exact .inr ⟨rfl, rfl⟩
    · rw [List.drop_of_length_le h, if_neg (by rw [decide_eq_true_eq]; omega)]
      exact .inl ⟨rfl, rfl⟩
theorem l27_4_spec {l : List Tok} (most : Int) {i : Nat} (hi : i < l.length) {t : Tok} (hg : l.getD i (0, 0, 0) = t) : ∀ (k r j : Nat) (out : List Int), r < k → ((j + r : Nat) : Int) = t.2.1 → t.2.1 ≤ 1000 → out.length + r ≤ 2000000 → (0 < r → 1 ≤ t.2.2 ∧ t.2.2 ≤ ((out.length : Nat) : Int)) →
    loopN g27_4 o27_4 b27_4 k (l, most, (i : Int), (j : Int), out, ()) = some (.inl (l, most, (i : Int), cpy t.2.2.toNat r out, ())) := by
  intro k
  induction k with
  | zero => intro r j out h1; omega
  | succ k ih =>
    intro r j out h1 h2 h3 h4 h5
    rw [loopN_succ]
    generalize hL : loopN g27_4 o27_4 b27_4 k = LL at ih ⊢
    unfold b27_4
    dsimp only
    rw [Int.toNat_natCast, hg, if_pos (by omega), if_pos (by omega)]
    cases r with
    | zero => rw [if_neg (by rw [decide_eq_true_eq]; omega), if_pos rfl]; rfl
    | succ r =>
      have hb := h5 (by omega)
      have w1 : IntKind.wrap .i64 (((out.length : Nat) : Int) - t.2.2) = ((out.length - t.2.2.toNat : Nat) : Int) := by rw [wrap_i64 (by omega)]; omega
      rw [if_pos (by rw [decide_eq_true_eq]; omega), if_pos (by omega), if_pos (by omega), w1, if_pos (by omega), if_pos (by omega), Int.toNat_natCast, Nat.zero_add, one_set, full, if_pos (by rw [List.length_singleton]; omega), if_pos rfl, Option.bind_some, Sum.elim_inl,
        show IntKind.wrap .i64 ((j : Int) + 1) = ((j + 1 : Nat) : Int) by rw [wrap_i64 (by omega)]; omega]
      exact ih r (j + 1) _ (by omega) (by omega) h3 (by rw [List.length_append, List.length_singleton]; omega) (fun _ => by rw [List.length_append, List.length_singleton]; omega)
theorem b27_3_eqn {l : List Tok} (most : Int) {i : Nat} (hi : i < l.length) {t : Tok} (hg : l.getD i (0, 0, 0) = t) (hT : t.2.1 = 0 → 0 ≤ t.1 ∧ t.1 ≤ 255) {out : List Int} (ho : out.length ≤ 2000000) :
    b27_3 (l, most, (i : Int), out, ()) = some (.inl (l, most, (i : Int), (if t.2.1 = 0 then out ++ [t.1] else out), ())) := by
  unfold b27_3
  dsimp only
  rw [Int.toNat_natCast, hg, if_pos (by omega), if_pos (by omega)]
  by_cases c : t.2.1 = 0
  · have w2 : IntKind.wrap .u8 t.1 = t.1 := by rw [wrap_u8]; have := hT c; omega
    rw [if_pos (beq_iff_eq.2 c), if_pos c, if_pos (by omega), if_pos (by omega), w2, one_set, full, if_pos (by rw [List.length_singleton]; omega), if_pos rfl]
  · rw [if_neg (fun h => c (beq_iff_eq.1 h)), if_neg c, if_pos rfl]
theorem l27_2_spec {most : Int} (hm : most ≤ 1048576) {l : List Tok} (hl : l.length < 2 ^ 60) (ht : l.all isT = true) : ∀ (k i : Nat) (out : List Int), l.length < i + k → i ≤ l.length → ((out.length : Nat) : Int) ≤ most →
    loopN g27_2 o27_2 b27_2 k (l, most, (i : Int), out, ()) = (match exp most (l.drop i) out with | .inl o => some (.inl (o, ())) | .inr e => some (.inr (.inl ([], e, ())))) := by
  intro k
  induction k with
  | zero => intro i out h1 h2; omega
  | succ k ih =>
    intro i out h1 h2 h3
    rw [loopN_succ]
    generalize hL : loopN g27_2 o27_2 b27_2 k = LL at ih ⊢
    unfold b27_2
    dsimp only
    rcases Nat.lt_or_ge i l.length with h | h
    · have hT : isT (l.getD i (0, 0, 0)) = true := by
        rw [List.all_eq_true] at ht
        refine ht _ ?_
        rw [List.getD_eq_getElem?_getD, List.getElem?_eq_getElem h]
        exact List.getElem_mem _
      rw [isT_iff] at hT
      rw [drop_getD h (0, 0, 0), if_pos (by rw [decide_eq_true_eq]; omega), if_pos (by omega), if_pos (by omega), Int.toNat_natCast]
      generalize hg : l.getD i (0, 0, 0) = t at hT ⊢
      unfold exp f60
      by_cases c1 : t.2.2 > ((out.length : Nat) : Int)
      · rw [if_pos (decide_eq_true c1), if_pos c1]; rfl
      · rw [if_neg (fun h => c1 (of_decide_eq_true h)), if_neg c1, if_pos (by omega), if_pos (by omega), Option.bind_some]
        dsimp only
        have w1 : IntKind.wrap .i64 (((out.length : Nat) : Int) + max t.2.1 1) = ((out.length : Nat) : Int) + max t.2.1 1 := wrap_i64 (by omega)
        rw [w1]
        by_cases c2 : ((out.length : Nat) : Int) + max t.2.1 1 > most
        · rw [if_pos (decide_eq_true c2), if_pos c2]; rfl
        · rw [if_neg (fun h => c2 (of_decide_eq_true h)), if_neg c2, if_pos rfl, b27_3_eqn most h hg (fun h => by omega) (by omega), Option.bind_some, Sum.elim_inl]
          dsimp only
          generalize hO : (if t.2.1 = 0 then out ++ [t.1] else out) = O
          have hOl : O.length = out.length + (1 - t.2.1).toNat := by
            rw [← hO]
            by_cases c3 : t.2.1 = 0
            · rw [if_pos c3, List.length_append, List.length_singleton]; omega
            · rw [if_neg c3]; omega
          have hr := l27_4_spec most h hg 18446744073709551616 t.2.1.toNat 0 O (by omega) (by omega) (by omega) (by omega) (fun _ => by omega)
          have hr' : loopN g27_4 o27_4 b27_4 18446744073709551616 (l, most, (i : Int), 0, O, ()) = _ := hr
          rw [if_pos rfl, show l27_4 = loopN g27_4 o27_4 b27_4 18446744073709551616 from rfl]
          generalize loopN g27_4 o27_4 b27_4 18446744073709551616 (l, most, (i : Int), 0, O, ()) = X at hr' ⊢
          subst hr'
          rw [Option.bind_some, Sum.elim_inl]
          dsimp only
          rw [if_pos rfl, Option.bind_some, Sum.elim_inl, show IntKind.wrap .i64 ((i : Int) + 1) = ((i + 1 : Nat) : Int) by rw [wrap_i64 (by omega)]; omega]
          exact ih (i + 1) _ (by omega) (by omega) (by rw [length_cpy]; omega)
    · rw [List.drop_of_length_le h, if_neg (by rw [decide_eq_true_eq]; omega), if_pos rfl]
      rfl
theorem f27_eqn {l : List Tok} (hl : l.length < 2 ^ 60) (most : Int) : f27 (l, most, ()) = some (expd l most) := by
  unfold f27 expd
  dsimp only
  by_cases c1 : most < 0
  · rw [if_pos (decide_eq_true c1), if_pos (.inl c1)]
  · rw [if_neg (fun h => c1 (of_decide_eq_true h))]
    by_cases c2 : 1048576 < most
    · rw [if_pos (decide_eq_true c2), if_pos (.inr (.inl c2))]
    · rw [if_neg (fun h => c2 (of_decide_eq_true h)), show l27_1 = loopN g27_1 o27_1 b27_1 18446744073709551616 from rfl, show l27_2 = loopN g27_2 o27_2 b27_2 18446744073709551616 from rfl]
      have h1 := l27_1_spec hl most 18446744073709551616 0 (by omega) (by omega)
      rw [List.drop_zero] at h1
      rcases h1 with ⟨hT, h1⟩ | ⟨hT, h1⟩
      · have h1' : loopN g27_1 o27_1 b27_1 18446744073709551616 (l, most, 0, ()) = _ := h1
        have h := l27_2_spec (by omega : most ≤ 1048576) hl hT 18446744073709551616 0 [] (by omega) (by omega) (by simp only [List.length_nil]; omega)
        have h' : loopN g27_2 o27_2 b27_2 18446744073709551616 (l, most, 0, [], ()) = _ := h
        rw [h1', Option.bind_some, Sum.elim_inl]
        dsimp only
        rw [h', List.drop_zero, if_neg (by rw [hT]; rintro (h | h | h) <;> first | exact c1 h | exact c2 h | cases h)]
        cases exp most l [] with
        | inl o => exact congrArg (fun q => some (q, (0 : Int), ())) (full o)
        | inr e => rfl
      · have h1' : loopN g27_1 o27_1 b27_1 18446744073709551616 (l, most, 0, ()) = _ := h1
        rw [h1', if_pos (.inr (.inr hT)), Option.bind_some]
        rfl
end Go.Ev.Zlib
namespace Go.Ev.Zlib
theorem f66_eqn {xs : List Int} (h : xs.length ≤ 140737488355328) : f66 (xs, ()) = some (xs, ()) := by
  unfold f66
  have e : List.take (0 : Nat) (List.drop (0 : Nat) (List.replicate (0 : Nat) (0 : Int))) ++ xs = xs := rfl
  simp only [Nat.zero_add]
  rw [e, if_pos h]
  simp only [if_true]
  by_cases h0 : xs.length = 0
  · rw [if_pos h0]
    have : xs = [] := List.eq_nil_of_length_eq_zero h0
    subst this
    exact amb_self (eq := go66.eq) go66.eq_refl _
  · rw [if_neg h0]
def outB (w m : Nat) (bs : List Int) : List Int := if 0 < m then bs ++ [((w % 256 : Nat) : Int)] else bs
theorem f50_eqn {xs : List Int} (h : xs.length ≤ 140737488355328) : f50 (xs, ()) = some (xs, 0, 0, 0, ()) := by
  unfold f50
  rw [f66_eqn h]
  simp only [Option.bind_some, List.drop_zero, List.take_length]
theorem f113_eqn {b : List Int} {a : Nat} {w m : Int} (ha : a < b.length) (hl : b.length ≤ 100000) : f113 (b, (a : Int), w, m, ()) = some (b.getD a 0, b, ((a + 1 : Nat) : Int), w, m, ()) := by
  unfold f113
  simp only []
  rw [if_pos (by omega), if_pos (by omega), wrap_i64 (by omega)]
  simp only [Int.toNat_natCast]
  rfl
theorem f55_eqn {b : List Int} {a : Nat} {w : Int} {m : Nat} (ha : a ≤ b.length) (hl : b.length ≤ 100000) (hm : m ≤ 100) : f55 (b, (a : Int), w, (m : Int), ()) = some (((8 * (b.length - a) + m : Nat) : Int), b, (a : Int), w, (m : Int), ()) := by
  unfold f55
  simp only []
  rw [wrap_i64 (n := (b.length : Int) - a) (by omega), wrap_i64 (n := 8 * ((b.length : Int) - a)) (by omega), wrap_i64 (by omega)]
  congr 2
  omega
def RV (b : List Int) (a w m : Nat) : Nat := w + 2 ^ m * valB (b.drop a)
theorem drop_cons {b : List Int} {a : Nat} (ha : a < b.length) : b.drop a = b.getD a 0 :: b.drop (a + 1) := by
  rw [List.drop_eq_getElem_cons ha]
  simp [List.getD_eq_getElem?_getD, ha]
theorem b56_more {n a w m : Nat} {b : List Int} (hb : IsB b) (hm : m < n) (hn : n ≤ 24) (hw : w < 2 ^ m) (ha : a < b.length) (hl : b.length ≤ 100000) :
    ∃ w' : Nat, b72_1 ((n : Int), b, (a : Int), (w : Int), (m : Int), ()) = some (.inl ((n : Int), b, ((a + 1 : Nat) : Int), (w' : Int), ((m + 8 : Nat) : Int), ())) ∧ w' < 2 ^ (m + 8) ∧ RV b (a + 1) w' (m + 8) = RV b a w m := by
  have hx := hb (b.getD a 0) (by rw [List.getD_eq_getElem?_getD, List.getElem?_eq_getElem ha]; exact List.getElem_mem _)
  obtain ⟨x, hxe⟩ : ∃ x : Nat, b.getD a 0 = (x : Int) := ⟨(b.getD a 0).toNat, by omega⟩
  have hx256 : x < 256 := by omega
  have hpm : (2 : Nat) ^ m ≤ 16777216 := by
    have : (2 : Nat) ^ m ≤ 2 ^ 24 := Nat.pow_le_pow_right (by omega) (by omega)
    simpa using this
  have hxm : x * 2 ^ m ≤ 256 * 16777216 := Nat.mul_le_mul (by omega) hpm
  refine ⟨w + x * 2 ^ m, ?_, ?_, ?_⟩
  · unfold b72_1
    simp only []
    rw [if_pos (by simp <;> omega), f113_eqn ha hl]
    simp only [Option.bind_some, decide_true, if_true]
    rw [if_neg (by omega), hxe, wrap_i64 (n := (x : Int)) (by omega), minN (by omega)]
    have e1 : IntKind.wrap IntKind.i64 ((x : Int) * 2 ^ m) = ((x * 2 ^ m : Nat) : Int) := by
      rw [show ((x : Int) * 2 ^ m) = ((x * 2 ^ m : Nat) : Int) by simp]
      exact wrap_i64 (by omega)
    rw [e1, or64 (by omega) (by omega), or_split x hw, wrap_i64 (by omega), wrap_i64 (by omega)]
    rfl
  · rw [Nat.pow_add]
    have : x * 2 ^ m ≤ 255 * 2 ^ m := Nat.mul_le_mul (by omega) (Nat.le_refl _)
    omega
  · unfold RV
    rw [drop_cons ha, hxe]
    simp only [valB, Int.toNat_natCast]
    rw [Nat.pow_add, Nat.mul_add, ← Nat.mul_assoc, show (2 : Nat) ^ 8 = 256 from rfl]
    have := Nat.mul_comm x (2 ^ m)
    omega
theorem b56_end {n a w m : Nat} {b : List Int} (hm : n ≤ m) : b72_1 ((n : Int), b, (a : Int), (w : Int), (m : Int), ()) = some (.inr (.inl ((n : Int), b, (a : Int), (w : Int), (m : Int), ()))) := by
  unfold b72_1
  simp only []
  rw [if_neg (by simp <;> omega)]
theorem l72_spec : ∀ (k n a w m : Nat) (b : List Int), IsB b → n ≤ 24 → w < 2 ^ m → a ≤ b.length → b.length ≤ 100000 → n ≤ m + 8 * (b.length - a) → 1 ≤ k → n + 8 ≤ m + 8 * k → m < n + 8 →
    ∃ (a' w' m' : Nat), loopN g72_1 o72_1 b72_1 k ((n : Int), b, (a : Int), (w : Int), (m : Int), ()) = some (.inl ((n : Int), b, (a' : Int), (w' : Int), (m' : Int), ())) ∧ n ≤ m' ∧ m' < n + 8 ∧ w' < 2 ^ m' ∧ a' ≤ b.length ∧
      m' + 8 * (b.length - a') = m + 8 * (b.length - a) ∧ RV b a' w' m' = RV b a w m := by
  intro k
  induction k with
  | zero => intro n a w m b _ _ _ _ _ _ h; omega
  | succ k ih =>
    intro n a w m b hb hn hw ha hl hleft _ hk hm
    rw [loopN_succ]
    rcases Nat.lt_or_ge m n with h8 | h8
    · obtain ⟨w1, h1, h2, h3⟩ := b56_more (a := a) hb h8 hn hw (by omega) hl
      rw [h1]
      obtain ⟨a', w', m', g1, g2, g3, g4, g5, g6, g25⟩ := ih n (a + 1) w1 (m + 8) b hb hn h2 (by omega) hl (by omega) (by omega) (by omega) (by omega)
      exact ⟨a', w', m', g1, g2, g3, g4, g5, by omega, by rw [g25, h3]⟩
    · rw [b56_end h8]
      exact ⟨a, w, m, rfl, h8, hm, hw, ha, rfl, rfl⟩
theorem f56_good {n a w m : Nat} {b : List Int} (hb : IsB b) (hn : n ≤ 24) (hm : m < 8) (hw : w < 2 ^ m) (ha : a ≤ b.length) (hl : b.length ≤ 100000) (hleft : n ≤ m + 8 * (b.length - a)) :
    ∃ (a' w' m' : Nat), f72 ((n : Int), b, (a : Int), (w : Int), (m : Int), ()) = some (((RV b a w m % 2 ^ n : Nat) : Int), 0, b, (a' : Int), (w' : Int), (m' : Int), ()) ∧ m' < 8 ∧ w' < 2 ^ m' ∧ a' ≤ b.length ∧
      m' + 8 * (b.length - a') + n = m + 8 * (b.length - a) ∧ RV b a' w' m' = RV b a w m / 2 ^ n := by
  obtain ⟨a', w', m', g1, g2, g3, g4, g5, g6, g25⟩ := l72_spec 18446744073709551616 n a w m b hb hn hw ha hl hleft (by omega) (by omega) (by omega)
  have hsplit : (2 : Nat) ^ m' = 2 ^ n * 2 ^ (m' - n) := by rw [← Nat.pow_add]; congr 1; omega
  have hrv : RV b a w m = w' + 2 ^ n * (2 ^ (m' - n) * valB (b.drop a')) := by
    rw [← g25]; unfold RV; rw [hsplit, Nat.mul_assoc]
  have hpos : 0 < (2 : Nat) ^ n := Nat.two_pow_pos n
  have hpn : (2 : Nat) ^ n ≤ 16777216 := by
    have : (2 : Nat) ^ n ≤ 2 ^ 24 := Nat.pow_le_pow_right (by omega) (by omega)
    simpa using this
  have hpm : (2 : Nat) ^ m' ≤ 4294967296 := by
    have : (2 : Nat) ^ m' ≤ 2 ^ 32 := Nat.pow_le_pow_right (by omega) (by omega)
    simpa using this
  refine ⟨a', w' / 2 ^ n, m' - n, ?_, by omega, ?_, g5, by omega, ?_⟩
  · unfold f72
    simp only []
    rw [if_neg (by simp <;> omega), if_neg (by simp <;> omega), f55_eqn ha hl (by omega)]
    simp only [Option.bind_some]
    rw [if_neg (by simp <;> omega)]
    rw [show l72_1 = loopN g72_1 o72_1 b72_1 18446744073709551616 from rfl, g1]
    simp only [Option.bind_some, Sum.elim_inl]
    rw [if_neg (by omega), if_neg (by omega), minN (by omega)]
    have e1 : IntKind.wrap IntKind.i64 ((1 : Int) * 2 ^ n) = ((2 ^ n : Nat) : Int) := by
      rw [show ((1 : Int) * 2 ^ n) = ((2 ^ n : Nat) : Int) by simp]
      exact wrap_i64 (by omega)
    have e2 : IntKind.wrap IntKind.i64 (((2 ^ n : Nat) : Int) - 1) = ((2 ^ n - 1 : Nat) : Int) := by
      rw [wrap_i64 (by omega)]; omega
    rw [e1, e2, and64 (by omega) (by omega), Nat.and_two_pow_sub_one_eq_mod, fdiv_pow]
    have hmod : w' % 2 ^ n < 2 ^ n := Nat.mod_lt _ hpos
    rw [wrap_i64 (by omega), wrap_i64 (by omega)]
    have e3 : RV b a w m % 2 ^ n = w' % 2 ^ n := by rw [hrv, Nat.add_mul_mod_self_left]
    rw [e3]
    congr 7
    omega
  · rw [Nat.div_lt_iff_lt_mul hpos, Nat.mul_comm, ← hsplit]; exact g4
  · rw [hrv, Nat.add_mul_div_left _ _ hpos]; rfl
def ra (p : Nat) : Nat := (p + 7) / 8
def rm (p : Nat) : Nat := 8 * ((p + 7) / 8) - p
def rw' (b : List Int) (p : Nat) : Nat := valB b / 2 ^ p % 2 ^ rm p
theorem valB_drop {b : List Int} (hb : IsB b) {a : Nat} (ha : a ≤ b.length) : valB (b.drop a) = valB b / 256 ^ a := by
  have h := valB_append (b.take a) (b.drop a)
  rw [List.take_append_drop, List.length_take, Nat.min_eq_left ha] at h
  have hlt := valB_lt (a := b.take a) (hb.take a)
  rw [List.length_take, Nat.min_eq_left ha] at hlt
  rw [h, Nat.add_mul_div_left _ _ (Nat.pow_pos (by omega)), Nat.div_eq_of_lt hlt, Nat.zero_add]
theorem RV_pos {b : List Int} (hb : IsB b) {p : Nat} (hp : p ≤ 8 * b.length) : RV b (ra p) (rw' b p) (rm p) = valB b / 2 ^ p := by
  unfold RV rw'
  have e : 8 * ra p = p + rm p := by unfold ra rm; omega
  rw [valB_drop hb (by unfold ra; omega), pow256, e, Nat.pow_add, ← Nat.div_div_eq_div_mul]
  exact Nat.mod_add_div _ _
def bitsAt (b : List Int) (p n : Nat) : Nat := valB b / 2 ^ p % 2 ^ n
theorem rd_of {b : List Int} {p a w m : Nat} (hm : m < 8) (hw : w < 2 ^ m) (ha : a ≤ b.length) (hc : m + 8 * (b.length - a) + p = 8 * b.length) (hR : RV b a w m = valB b / 2 ^ p) : a = ra p ∧ w = rw' b p ∧ m = rm p := by
  have h1 : a = ra p := by unfold ra; omega
  have h3 : m = rm p := by unfold rm; omega
  refine ⟨h1, ?_, h3⟩
  unfold rw'
  rw [← hR, ← h3]
  unfold RV
  rw [Nat.add_mul_mod_self_left, Nat.mod_eq_of_lt hw]
theorem f72_left {b : List Int} (hl : b.length ≤ 100000) {p : Nat} (hp : p ≤ 8 * b.length) : f55 (b, ((ra p : Nat) : Int), ((rw' b p : Nat) : Int), ((rm p : Nat) : Int), ()) = some (((8 * b.length - p : Nat) : Int), b, ((ra p : Nat) : Int), ((rw' b p : Nat) : Int), ((rm p : Nat) : Int), ()) := by
  rw [f55_eqn (by unfold ra; omega) hl (by unfold rm; omega)]
  congr 2
  unfold ra rm
  omega
theorem f72_more {b : List Int} (hl : b.length ≤ 100000) {p n : Nat} (hp : p ≤ 8 * b.length) (hn : n ≤ 24) (h : 8 * b.length < p + n) :
    f72 ((n : Int), b, ((ra p : Nat) : Int), ((rw' b p : Nat) : Int), ((rm p : Nat) : Int), ()) = some (0, 6, b, ((ra p : Nat) : Int), ((rw' b p : Nat) : Int), ((rm p : Nat) : Int), ()) := by
  unfold f72
  dsimp only
  rw [if_neg (by rw [decide_eq_true_eq]; omega), if_neg (by rw [decide_eq_true_eq]; omega), f72_left hl hp, Option.bind_some]
  dsimp only
  rw [if_pos (by rw [decide_eq_true_eq]; omega)]
theorem f72_eqn {b : List Int} (hb : IsB b) (hl : b.length ≤ 100000) {p n : Nat} (hn : n ≤ 24) (h : p + n ≤ 8 * b.length) :
    f72 ((n : Int), b, ((ra p : Nat) : Int), ((rw' b p : Nat) : Int), ((rm p : Nat) : Int), ()) = some (((bitsAt b p n : Nat) : Int), 0, b, ((ra (p + n) : Nat) : Int), ((rw' b (p + n) : Nat) : Int), ((rm (p + n) : Nat) : Int), ()) := by
  have hR := RV_pos hb (p := p) (by omega)
  have hpow : 0 < 2 ^ rm p := Nat.two_pow_pos _
  obtain ⟨a', w', m', g1, g2, g3, g4, g5, g6⟩ := f56_good (b := b) (n := n) (a := ra p) (w := rw' b p) (m := rm p) hb hn (by unfold rm; omega) (Nat.mod_lt _ hpow) (by unfold ra; omega) hl (by unfold ra rm; omega)
  rw [hR, Nat.div_div_eq_div_mul, ← Nat.pow_add] at g6
  obtain ⟨h1, h2, h3⟩ := rd_of (p := p + n) g2 g3 g4 (by unfold ra rm at g5; omega) g6
  rw [g1, hR, h1, h2, h3]
  rfl
theorem bitsAt_lt (b : List Int) (p n : Nat) : bitsAt b p n < 2 ^ n := Nat.mod_lt _ (Nat.two_pow_pos _)
theorem f73_pos {b : List Int} (hl : b.length ≤ 100000) {p : Nat} (hp : p ≤ 8 * b.length) : f73 (b, ((ra p : Nat) : Int), ((rw' b p : Nat) : Int), ((rm p : Nat) : Int), ()) = some (0, b, ((ra (8 * ra p) : Nat) : Int), ((rw' b (8 * ra p) : Nat) : Int), ((rm (8 * ra p) : Nat) : Int), ()) := by
  unfold f73
  dsimp only
  have e1 : ra (8 * ra p) = ra p := by unfold ra; omega
  have e2 : rm (8 * ra p) = 0 := by unfold rm ra; omega
  have e3 : rw' b (8 * ra p) = 0 := by unfold rw'; rw [e2, Nat.pow_zero, Nat.mod_one]
  have e4 : Int.tdiv ((rm p : Nat) : Int) 8 = 0 := by
    rw [show Int.tdiv ((rm p : Nat) : Int) 8 = ((rm p / 8 : Nat) : Int) from rfl]; unfold rm; omega
  rw [e1, e2, e3, e4, wrap_i64 (n := (0 : Int)) (by omega), wrap_i64 (by unfold ra; omega)]
  rw [Int.sub_zero]
  rfl
theorem f74_more {b : List Int} (hl : b.length ≤ 100000) {q : Nat} (hq : q ≤ b.length) {n : Nat} (h : b.length < q + n) (hn : n ≤ 100000) :
    f74 ((n : Int), b, ((ra (8 * q) : Nat) : Int), ((rw' b (8 * q) : Nat) : Int), ((rm (8 * q) : Nat) : Int), ()) = some (6, b, ((ra (8 * q) : Nat) : Int), ((rw' b (8 * q) : Nat) : Int), ((rm (8 * q) : Nat) : Int), [], ()) := by
  have e1 : 8 * ra (8 * q) = 8 * q := by unfold ra; omega
  unfold f74
  dsimp only
  rw [if_neg (by rw [decide_eq_true_eq]; omega), f73_pos hl (by omega), Option.bind_some]
  dsimp only
  rw [e1, wrap_i64 (by unfold ra; omega), if_pos (by rw [decide_eq_true_eq]; unfold ra; omega)]
theorem f74_eqn {b : List Int} (hl : b.length ≤ 100000) {q n : Nat} (h : q + n ≤ b.length) :
    f74 ((n : Int), b, ((ra (8 * q) : Nat) : Int), ((rw' b (8 * q) : Nat) : Int), ((rm (8 * q) : Nat) : Int), ()) = some (0, b, ((ra (8 * (q + n)) : Nat) : Int), ((rw' b (8 * (q + n)) : Nat) : Int), ((rm (8 * (q + n)) : Nat) : Int), (b.drop q).take n, ()) := by
  have e1 : 8 * ra (8 * q) = 8 * q := by unfold ra; omega
  have z1 : ∀ q, ra (8 * q) = q := fun q => by unfold ra; omega
  have z2 : ∀ q, rm (8 * q) = 0 := fun q => by unfold rm; omega
  have z3 : ∀ q, rw' b (8 * q) = 0 := fun q => by unfold rw'; rw [z2, Nat.pow_zero, Nat.mod_one]
  unfold f74
  dsimp only
  rw [if_neg (by rw [decide_eq_true_eq]; omega), f73_pos hl (by omega), Option.bind_some]
  dsimp only
  rw [e1, z1, z2, z3]
  have w1 : IntKind.wrap .i64 ((q : Int) + (n : Int)) = ((q + n : Nat) : Int) := by rw [wrap_i64 (by omega)]; omega
  have w2 : IntKind.wrap .i64 (((q + n : Nat) : Int) - (n : Int)) = (q : Int) := by rw [wrap_i64 (by omega)]; omega
  rw [wrap_i64 (n := ((b.length : Nat) : Int) - (q : Int)) (by omega), if_neg (by rw [decide_eq_true_eq]; omega), w1, w2, if_pos (by omega), if_pos (by omega), if_pos (by omega), if_pos (by omega), Int.toNat_natCast, Int.toNat_natCast,
    f66_eqn (by rw [List.length_drop, List.length_take]; omega), Option.bind_some]
  dsimp only
  rw [if_pos rfl, z1, z2, z3, List.drop_take, show q + n - q = n by omega]
end Go.Ev.Zlib
namespace Go.Ev.Zlib
def numsR (b : List Int) : List Int → Nat → List Int → Option (List Int) × Nat
  | [], p, out => (some out, p)
  | n :: l, p, out => if p + n.toNat ≤ 8 * b.length then numsR b l (p + n.toNat) (out ++ [((bitsAt b p n.toNat : Nat) : Int)]) else (none, p)
theorem l51_1_spec {b : List Int} (hb : IsB b) (hl : b.length ≤ 100000) {ns : List Int} (hn : ∀ n ∈ ns, 0 ≤ n ∧ n ≤ 24) (hs : ns.length ≤ 100) (A B : Int) (T : List Tok) : ∀ (k i p : Nat) (out : List Int), ns.length < i + k → i ≤ ns.length → p ≤ 8 * b.length → out.length ≤ 1000 + i →
    loopN g51_1 o51_1 b51_1 k (ns, ((ns.length : Nat) : Int), (i : Int), A, B, b, ((ra p : Nat) : Int), ((rw' b p : Nat) : Int), ((rm p : Nat) : Int), T, out, ()) =
      (match numsR b (ns.drop i) p out with
      | (some o, p') => some (.inl (A, B, b, ((ra p' : Nat) : Int), ((rw' b p' : Nat) : Int), ((rm p' : Nat) : Int), T, o, ()))
      | (none, p') => some (.inr (.inl ([], 6, A, B, b, ((ra p' : Nat) : Int), ((rw' b p' : Nat) : Int), ((rm p' : Nat) : Int), T, ())))) := by
  intro k
  induction k with
  | zero => intro i p out h1 h2; omega
  | succ k ih =>
    intro i p out h1 h2 h3 h4
    rw [loopN_succ]
    generalize hL : loopN g51_1 o51_1 b51_1 k = L at ih ⊢
    unfold b51_1
    dsimp only
    rcases Nat.lt_or_ge i ns.length with h | h
    · have hm : ns.getD i 0 ∈ ns := by
        rw [List.getD_eq_getElem?_getD, List.getElem?_eq_getElem h]
        exact List.getElem_mem _
      have hn' := hn _ hm
      rw [drop_getD h 0, if_pos (by rw [decide_eq_true_eq]; omega), if_pos (by omega), if_pos (by omega), Int.toNat_natCast]
      generalize ns.getD i 0 = x at hn' ⊢
      obtain ⟨n, rfl⟩ : ∃ n : Nat, x = (n : Int) := ⟨x.toNat, by omega⟩
      unfold numsR
      rw [Int.toNat_natCast]
      by_cases c : p + n ≤ 8 * b.length
      · rw [if_pos c, f72_eqn hb hl (by omega) c, Option.bind_some]
        dsimp only
        rw [if_neg (by decide), one_set, full, if_pos (by rw [List.length_singleton]; omega), if_pos rfl, if_pos rfl, Option.bind_some, Sum.elim_inl, show IntKind.wrap .i64 ((i : Int) + 1) = ((i + 1 : Nat) : Int) by rw [wrap_i64 (by omega)]; omega]
        exact ih (i + 1) (p + n) _ (by omega) (by omega) c (by rw [List.length_append, List.length_singleton]; omega)
      · rw [if_neg c, f72_more hl h3 (by omega) (by omega), Option.bind_some]
        dsimp only
        rw [if_pos (by decide), if_pos rfl]
        rfl
    · rw [List.drop_of_length_le h, if_neg (by rw [decide_eq_true_eq]; omega), if_pos rfl, if_pos rfl]
      rfl
theorem f51_eqn {b : List Int} (hb : IsB b) (hl : b.length ≤ 100000) {ns : List Int} (hn : ∀ n ∈ ns, 0 ≤ n ∧ n ≤ 24) (hs : ns.length ≤ 100) (A B : Int) (T : List Tok) {p : Nat} (hp : p ≤ 8 * b.length) :
    f51 (ns, A, B, b, ((ra p : Nat) : Int), ((rw' b p : Nat) : Int), ((rm p : Nat) : Int), T, ()) = (match numsR b ns p [] with
      | (some o, p') => some (o, 0, A, B, b, ((ra p' : Nat) : Int), ((rw' b p' : Nat) : Int), ((rm p' : Nat) : Int), T, ())
      | (none, p') => some ([], 6, A, B, b, ((ra p' : Nat) : Int), ((rw' b p' : Nat) : Int), ((rm p' : Nat) : Int), T, ())) := by
  have h := l51_1_spec hb hl hn hs A B T 18446744073709551616 0 p [] (by omega) (by omega) hp (by simp)
  have h' : loopN g51_1 o51_1 b51_1 18446744073709551616 (ns, ((ns.length : Nat) : Int), 0, A, B, b, ((ra p : Nat) : Int), ((rw' b p : Nat) : Int), ((rm p : Nat) : Int), T, [], ()) = _ := h
  unfold f51
  dsimp only
  rw [if_pos rfl, show l51_1 = loopN g51_1 o51_1 b51_1 18446744073709551616 from rfl, h', List.drop_zero]
  generalize numsR b ns p [] = r
  obtain ⟨o, p'⟩ := r
  cases o with
  | none =>
    dsimp only
    rw [Option.bind_some, Sum.elim_inr, Sum.elim_inl, if_pos rfl]
  | some o =>
    dsimp only
    rw [Option.bind_some, Sum.elim_inl, if_pos rfl, full]
theorem f75_eqn (x : Int) {len : Int} (hlen : len ≤ 1000) (back : Int) {n : Nat} {most : Int} (hn : (n : Int) ≤ most) (hm : most ≤ 1048576) (b' : List Int) (a w m : Int) {T : List Tok} (hT : T.length ≤ n) :
    f75 (x, len, back, (n : Int), most, b', a, w, m, T, ()) =
      if back > (n : Int) then some (4, (n : Int), most, b', a, w, m, T, ()) else if (n : Int) + max len 1 > most then some (2, (n : Int), most, b', a, w, m, T, ())
      else some (0, ((n + max len.toNat 1 : Nat) : Int), most, b', a, w, m, T ++ [(x, len, back)], ()) := by
  unfold f75
  dsimp only
  have w1 : IntKind.wrap .i64 ((n : Int) + max len 1) = (n : Int) + max len 1 := wrap_i64 (by omega)
  rw [w1]
  by_cases c1 : back > (n : Int)
  · rw [if_pos (decide_eq_true c1), if_pos c1, if_pos rfl]
  · rw [if_neg (fun h => c1 (of_decide_eq_true h)), if_neg c1]
    by_cases c2 : (n : Int) + max len 1 > most
    · rw [if_pos (decide_eq_true c2), if_pos c2, if_pos rfl]
    · have e1 : List.take 1 (List.drop 0 (List.set (List.replicate 1 ((0 : Int), (0 : Int), (0 : Int))) 0 (x, len, back))) = [(x, len, back)] := rfl
      rw [if_neg (fun h => c2 (of_decide_eq_true h)), if_neg c2, e1, full, if_pos (by rw [List.length_singleton]; omega), if_pos rfl, show (n : Int) + max len 1 = ((n + max len.toNat 1 : Nat) : Int) by omega]
def lits (l : List Int) : List Tok := l.map fun x => (x, 0, 0)
theorem l52_1_spec {bs : List Int} (hbs : IsB bs) (hbl : bs.length ≤ 100000) {most : Int} (hm : most ≤ 1048576) (b' : List Int) (a w m : Int) : ∀ (k i n : Nat) (T : List Tok), bs.length < i + k → i ≤ bs.length → ((n + (bs.length - i) : Nat) : Int) ≤ most → T.length ≤ n →
    loopN g52_1 o52_1 b52_1 k (bs, ((bs.length : Nat) : Int), (i : Int), (n : Int), most, b', a, w, m, T, ()) = some (.inl (((n + (bs.length - i) : Nat) : Int), most, b', a, w, m, T ++ lits (bs.drop i), ())) := by
  intro k
  induction k with
  | zero => intro i n T h1 h2; omega
  | succ k ih =>
    intro i n T h1 h2 h3 h4
    rw [loopN_succ]
    generalize hL : loopN g52_1 o52_1 b52_1 k = L at ih ⊢
    unfold b52_1
    dsimp only
    rcases Nat.lt_or_ge i bs.length with h | h
    · have hx := hbs.get i
      rw [drop_getD h 0, if_pos (by rw [decide_eq_true_eq]; omega), if_pos (by omega), if_pos (by omega), Int.toNat_natCast, if_pos rfl]
      generalize bs.getD i 0 = x at hx ⊢
      rw [wrap_i64 (n := x) (by omega), f75_eqn x (by omega) 0 (by omega) hm b' a w m h4, if_neg (by omega), if_neg (by omega), Option.bind_some]
      dsimp only
      rw [if_pos rfl, Option.bind_some, Sum.elim_inl, show IntKind.wrap .i64 ((i : Int) + 1) = ((i + 1 : Nat) : Int) by rw [wrap_i64 (by omega)]; omega]
      rw [ih (i + 1) _ _ (by omega) (by omega) (by omega) (by rw [List.length_append, List.length_singleton]; omega)]
      rw [List.append_assoc, show n + max (Int.toNat 0) 1 + (bs.length - (i + 1)) = n + (bs.length - i) by simp only [Int.toNat_zero]; omega]
      rfl
    · rw [List.drop_of_length_le h, if_neg (by rw [decide_eq_true_eq]; omega), if_pos rfl, show bs.length - i = 0 by omega]
      unfold lits
      rw [List.map_nil, List.append_nil]
      rfl
theorem numsR_two (b : List Int) (p : Nat) {x y : Int} : numsR b [x, y] p [] =
    if p + x.toNat + y.toNat ≤ 8 * b.length then (some [((bitsAt b p x.toNat : Nat) : Int), ((bitsAt b (p + x.toNat) y.toNat : Nat) : Int)], p + x.toNat + y.toNat)
    else (none, if p + x.toNat ≤ 8 * b.length then p + x.toNat else p) := by
  unfold numsR
  by_cases c1 : p + x.toNat ≤ 8 * b.length
  · rw [if_pos c1, if_pos c1]
    unfold numsR
    by_cases c2 : p + x.toNat + y.toNat ≤ 8 * b.length
    · rw [if_pos c2, if_pos c2]
      rfl
    · rw [if_neg c2, if_neg c2]
  · rw [if_neg c1, if_neg c1, if_neg (by omega)]
theorem xor64 {a b : Nat} (ha : a < 18446744073709551616) (hb : b < 18446744073709551616) : (BitVec.ofInt 64 (a : Int) ^^^ BitVec.ofInt 64 (b : Int)).toNat = a ^^^ b := by
  rw [BitVec.toNat_xor, ofInt_toNat ha, ofInt_toNat hb]
def storedR (b : List Int) (most : Int) (n : Nat) (T : List Tok) (p : Nat) : (Nat × List Tok × Nat) ⊕ Int :=
  if 8 * b.length < 8 * ra p + 32 then .inr 6
  else if bitsAt b (8 * ra p) 16 ^^^ bitsAt b (8 * ra p + 16) 16 ≠ 65535 then .inr 4
  else if b.length < ra p + 4 + bitsAt b (8 * ra p) 16 then .inr 6
  else if ((n + bitsAt b (8 * ra p) 16 : Nat) : Int) > most then .inr 2
  else .inl (n + bitsAt b (8 * ra p) 16, T ++ lits ((b.drop (ra p + 4)).take (bitsAt b (8 * ra p) 16)), 8 * (ra p + 4 + bitsAt b (8 * ra p) 16))
def Ends (b : List Int) (most : Int) (r : (Nat × List Tok × Nat) ⊕ Int) (o : Option go52.D) : Prop :=
  match r with
  | .inl (n, T, p) => o = some (0, (n : Int), most, b, ((ra p : Nat) : Int), ((rw' b p : Nat) : Int), ((rm p : Nat) : Int), T, ())
  | .inr e => e ≠ 0 ∧ ∃ z, o = some (e, z)
theorem f52_eqn {b : List Int} (hb : IsB b) (hl : b.length ≤ 100000) {n : Nat} {most : Int} (hn : (n : Int) ≤ most) (hm : most ≤ 1048576) {T : List Tok} (hT : T.length ≤ n) {p : Nat} (hp : p ≤ 8 * b.length) :
    Ends b most (storedR b most n T p) (f52 ((n : Int), most, b, ((ra p : Nat) : Int), ((rw' b p : Nat) : Int), ((rm p : Nat) : Int), T, ())) := by
  have hq : ra p ≤ b.length := by unfold ra; omega
  have h1 : ra (8 * ra p) = ra p := by unfold ra; omega
  generalize hqe : ra p = q at hq h1
  unfold storedR f52
  rw [hqe]
  dsimp only
  have hA := f73_pos hl hp
  rw [hqe] at hA
  rw [hA, Option.bind_some]
  dsimp only
  rw [if_pos rfl]
  have e1 : List.take 2 (List.drop 0 (List.set (List.set (List.replicate 2 (0 : Int)) 0 16) 1 16)) = [16, 16] := rfl
  rw [e1, f51_eqn hb hl (by intro n hn; rcases List.mem_cons.1 hn with rfl | h; omega; rw [List.mem_singleton] at h; omega) (by decide) _ _ T (show 8 * q ≤ 8 * b.length by omega)]
  rw [numsR_two b (8 * q) (x := 16) (y := 16), show Int.toNat 16 = 16 from rfl]
  by_cases c1 : 8 * b.length < 8 * q + 32
  · rw [if_pos c1, if_neg (show ¬ (8 * q + 16 + 16 ≤ 8 * b.length) by omega)]
    dsimp only
    rw [Option.bind_some]
    dsimp only
    rw [if_pos (by decide), if_pos rfl]
    exact ⟨by decide, _, rfl⟩
  · rw [if_neg c1, if_pos (show 8 * q + 16 + 16 ≤ 8 * b.length by omega)]
    dsimp only
    rw [Option.bind_some]
    dsimp only
    have b1 := bitsAt_lt b (8 * q) 16
    have b2 := bitsAt_lt b (8 * q + 16) 16
    generalize hv0 : bitsAt b (8 * q) 16 = v0 at b1 ⊢
    generalize bitsAt b (8 * q + 16) 16 = v1 at b2 ⊢
    have g0 : ([(v0 : Int), (v1 : Int)] : List Int).getD 0 0 = (v0 : Int) := rfl
    have g1 : ([(v0 : Int), (v1 : Int)] : List Int).getD 1 0 = (v1 : Int) := rfl
    have hx : v0 ^^^ v1 < 2 ^ 16 := Nat.xor_lt_two_pow b1 b2
    rw [if_neg (show ¬ (((0 : Int) != 0) = true) by decide), if_pos (show (0 : Int) < ((List.length [(v0 : Int), (v1 : Int)] : Nat) : Int) by simp), if_pos (show (1 : Int) < ((List.length [(v0 : Int), (v1 : Int)] : Nat) : Int) by simp), g0, g1, xor64 (by omega) (by omega), wrap_i64 (by omega)]
    by_cases c3 : v0 ^^^ v1 = 65535
    · rw [if_neg (show ¬ (v0 ^^^ v1 ≠ 65535) from fun h => h c3), if_neg (show ¬ ((((v0 ^^^ v1 : Nat) : Int) != 65535) = true) by rw [c3]; decide), if_pos (show (0 : Int) < ((List.length [(v0 : Int), (v1 : Int)] : Nat) : Int) by simp)]
      rw [show 8 * q + 16 + 16 = 8 * (q + 4) by omega]
      by_cases c4 : b.length < q + 4 + v0
      · rw [if_pos c4, f74_more hl (by omega) c4 (by omega), Option.bind_some]
        dsimp only
        rw [if_pos (by decide), if_pos rfl]
        exact ⟨by decide, _, rfl⟩
      · have hlen : ((b.drop (q + 4)).take v0).length = v0 := by rw [List.length_take, List.length_drop]; omega
        rw [if_neg c4, f74_eqn hl (by omega), Option.bind_some]
        dsimp only
        rw [if_neg (show ¬ (((0 : Int) != 0) = true) by decide), hlen, wrap_i64 (by omega)]
        by_cases c5 : ((n + v0 : Nat) : Int) > most
        · rw [if_pos c5, if_pos (decide_eq_true (by omega)), if_pos rfl]
          exact ⟨by decide, _, rfl⟩
        · have hr := l52_1_spec (bs := (b.drop (q + 4)).take v0) ((hb.drop _).take _) (by omega) hm b ((ra (8 * (q + 4 + v0)) : Nat) : Int) ((rw' b (8 * (q + 4 + v0)) : Nat) : Int) ((rm (8 * (q + 4 + v0)) : Nat) : Int) 18446744073709551616 0 n T (by omega) (by omega) (by omega) hT
          rw [hlen, Nat.sub_zero, List.drop_zero] at hr
          have hr' : loopN g52_1 o52_1 b52_1 18446744073709551616 ((b.drop (q + 4)).take v0, ((v0 : Nat) : Int), 0, (n : Int), most, b, ((ra (8 * (q + 4 + v0)) : Nat) : Int), ((rw' b (8 * (q + 4 + v0)) : Nat) : Int), ((rm (8 * (q + 4 + v0)) : Nat) : Int), T, ()) = _ := hr
          rw [if_neg c5, if_neg (by rw [decide_eq_true_eq]; omega), if_pos rfl]
          have e3 : List.take v0 (List.drop 0 (List.take v0 (List.drop (q + 4) b))) = List.take v0 (List.drop (q + 4) b) := by rw [List.drop_zero, List.take_take, Nat.min_self]
          rw [e3, show l52_1 = loopN g52_1 o52_1 b52_1 18446744073709551616 from rfl, hr', Option.bind_some, Sum.elim_inl]
          dsimp only
          rw [if_pos rfl]
          rfl
    · rw [if_pos (show _ ≠ _ from c3), if_pos (by rw [bne_iff_ne]; omega), if_pos rfl]
      exact ⟨by decide, _, rfl⟩
end Go.Ev.Zlib
namespace Go.Ev.Zlib
theorem exp_lits (most : Int) : ∀ (l out : List Int), ((out.length + l.length : Nat) : Int) ≤ most → exp most (lits l) out = .inl (out ++ l)
  | [], out, _ => by rw [List.append_nil]; rfl
  | x :: l, out, h => by
    rw [List.length_cons] at h
    have hst : exp most (lits (x :: l)) out = if (0 : Int) > ((out.length : Nat) : Int) then .inr 4 else if ((out.length : Nat) : Int) + max 0 1 > most then .inr 2 else exp most (lits l) (out ++ [x]) := rfl
    rw [hst, if_neg (by omega), if_neg (by omega), exp_lits most l _ (by rw [List.length_append, List.length_singleton]; omega), List.append_assoc]
    rfl
theorem isT_lits {l : List Int} (h : IsB l) : (lits l).all isT = true := by
  rw [List.all_eq_true]
  intro t ht
  unfold lits at ht
  obtain ⟨x, hx, rfl⟩ := List.mem_map.1 ht
  have := h x hx
  rw [isT_iff]
  exact .inl ⟨rfl, rfl, by dsimp only; omega, by dsimp only; omega⟩
theorem f50_pos {b : List Int} (hl : b.length ≤ 100000) : f50 (b, ()) = some (b, ((ra 0 : Nat) : Int), ((rw' b 0 : Nat) : Int), ((rm 0 : Nat) : Int), ()) := by
  rw [f50_eqn (by omega)]
  have e1 : ra 0 = 0 := rfl
  have e2 : rm 0 = 0 := rfl
  have e3 : rw' b 0 = 0 := by unfold rw'; rw [e2, Nat.pow_zero, Nat.mod_one]
  rw [e1, e2, e3]
  rfl
theorem f24_ends {b : List Int} (hl : b.length ≤ 100000) {most : Int} (h0 : 0 ≤ most) (hm : most ≤ 1048576) {n : Int} {T : List Tok} {p : Nat} (hp : p ≤ 8 * b.length)
    (h : loopN g24_1 o24_1 b24_1 18446744073709551616 (b, 0, most, b, ((ra 0 : Nat) : Int), ((rw' b 0 : Nat) : Int), ((rm 0 : Nat) : Int), [], ()) = some (.inr (.inl (b, n, most, b, ((ra p : Nat) : Int), ((rw' b p : Nat) : Int), ((rm p : Nat) : Int), T, ())))) :
    f24 (b, most, ()) = some (T, (((p + 7) / 8 : Nat) : Int), 0, ()) := by
  unfold f24
  dsimp only
  rw [if_neg (by rw [decide_eq_true_eq]; omega), if_neg (by rw [decide_eq_true_eq]; omega), f50_pos hl, Option.bind_some]
  dsimp only
  rw [show l24_1 = loopN g24_1 o24_1 b24_1 18446744073709551616 from rfl, h, Option.bind_some, Sum.elim_inr, Sum.elim_inl]
  dsimp only
  rw [f72_left hl hp, Option.bind_some]
  dsimp only
  rw [show Int.tdiv ((8 * b.length - p : Nat) : Int) 8 = (((8 * b.length - p) / 8 : Nat) : Int) from rfl, wrap_i64 (n := (((8 * b.length - p) / 8 : Nat) : Int)) (by omega), wrap_i64 (by omega), full]
  refine congrArg (fun q => some (T, q, (0 : Int), ())) ?_
  omega
end Go.Ev.Zlib
namespace Go.Ev.Zlib
def cnt (l : List Int) (n : Nat) : Nat := l.count (n : Int)
def shr : List Int → Nat
  | [] => 0
  | x :: l => (if 0 < x then 2 ^ (15 - x.toNat) else 0) + shr l
def Ok (l : List Int) : Prop := ∀ x ∈ l, 0 ≤ x ∧ x ≤ 15
theorem shr_append : ∀ a b : List Int, shr (a ++ b) = shr a + shr b
  | [], b => by simp [shr]
  | x :: a, b => by simp only [List.cons_append, shr, shr_append a b]; omega
theorem shr_le : ∀ l : List Int, shr l ≤ 32768 * l.length
  | [] => by simp [shr]
  | x :: l => by
    have := shr_le l
    have h : 2 ^ (15 - x.toNat) ≤ 32768 := by
      have : (2 : Nat) ^ (15 - x.toNat) ≤ 2 ^ 15 := Nat.pow_le_pow_right (by omega) (by omega)
      simpa using this
    simp only [shr, List.length_cons]
    split <;> omega
theorem shr_take_succ {l : List Int} {i : Nat} (h : i < l.length) : shr (l.take (i + 1)) = shr (l.take i) + (if 0 < l.getD i 0 then 2 ^ (15 - (l.getD i 0).toNat) else 0) := by
  rw [List.take_add_one, List.getElem?_eq_getElem h, shr_append]
  simp [shr, List.getD_eq_getElem?_getD, h]
theorem not_ok {l : List Int} {i : Nat} (h : i < l.length) (hx : ¬ (0 ≤ l.getD i 0 ∧ l.getD i 0 ≤ 15)) : ¬ Ok l := fun hk => by
  refine hx (hk _ ?_)
  rw [List.getD_eq_getElem?_getD, List.getElem?_eq_getElem h]
  exact List.getElem_mem _
theorem Ok.get {l : List Int} (h : Ok l) (i : Nat) : 0 ≤ l.getD i 0 ∧ l.getD i 0 ≤ 15 := by
  rw [List.getD_eq_getElem?_getD]
  rcases Nat.lt_or_ge i l.length with hi | hi
  · rw [List.getElem?_eq_getElem hi]; exact h _ (List.getElem_mem _)
  · rw [List.getElem?_eq_none hi]; simp
noncomputable def err (l : List Int) : Int := if 320 < l.length then 1 else open Classical in if Ok l then (if 32768 < shr l then 4 else 0) else 1
def C (l : List Int) : List Int := tab 16 (fun n => if n = 0 then 0 else (cnt l n : Int))
theorem fdiv32768 {x : Int} (h : 0 ≤ x ∧ x ≤ 15) : Int.fdiv 32768 (2 ^ (Min.min (Int.toNat x) 64)) = ((2 ^ (15 - x.toNat) : Nat) : Int) := by
  obtain ⟨n, rfl⟩ := Int.eq_ofNat_of_zero_le h.1
  have hn : n ≤ 15 := by omega
  have key : ∀ n : Nat, n ≤ 15 → Int.fdiv 32768 (2 ^ (Min.min (Int.toNat ((n : Nat) : Int)) 64)) = ((2 ^ (15 - (Int.toNat ((n : Nat) : Int))) : Nat) : Int) := by decide
  exact key n hn
theorem l82_spec {l : List Int} (hl : l.length ≤ 320) (res : List Int) : ∀ (k i : Nat), l.length < i + k → i ≤ l.length → (∀ j, j < i → 0 ≤ l.getD j 0 ∧ l.getD j 0 ≤ 15) →
    (Ok l ∧ loopN g82_1 o82_1 b82_1 k ((shr (l.take i) : Int), l, (l.length : Int), (i : Int), res, C (l.take i), ()) = some (.inl ((shr l : Int), res, C l, ()))) ∨
    (¬ Ok l ∧ ∃ c, loopN g82_1 o82_1 b82_1 k ((shr (l.take i) : Int), l, (l.length : Int), (i : Int), res, C (l.take i), ()) = some (.inr (.inl (1, c, ())))) := by
  intro k
  induction k with
  | zero => intro i h1 h2; omega
  | succ k ih =>
    intro i h1 h2 hb
    rw [loopN_succ]
    generalize hL : loopN g82_1 o82_1 b82_1 k = L at ih ⊢
    unfold b82_1
    simp only [Int.toNat_natCast]
    rcases Nat.lt_or_ge i l.length with h | h
    · rw [if_pos (by simp; omega), if_pos (by omega), if_pos (by omega)]
      by_cases hx : 0 ≤ l.getD i 0 ∧ l.getD i 0 ≤ 15
      · rw [if_neg (by rw [decide_eq_true_eq]; exact Int.not_lt.2 hx.1), if_neg (by rw [decide_eq_true_eq]; exact Int.not_lt.2 hx.2)]
        have hs1 := shr_take_succ h
        have hs2 := shr_le (l.take (i + 1))
        have hlt : (l.take (i + 1)).length ≤ 320 := by rw [List.length_take]; omega
        have hb' : ∀ j, j < i + 1 → 0 ≤ l.getD j 0 ∧ l.getD j 0 ≤ 15 := fun j hj => by
          by_cases e : j = i
          · rw [e]; exact hx
          · exact hb j (by omega)
        have e3 : IntKind.wrap IntKind.i64 ((i : Int) + 1) = ((i + 1 : Nat) : Int) := by rw [wrap_i64 (by omega)]; omega
        have hI := ih (i + 1) (by omega) (by omega) hb'
        obtain ⟨n, hn⟩ := Int.eq_ofNat_of_zero_le hx.1
        have hcl : cnt (l.take i) n ≤ 320 := Nat.le_trans List.count_le_length (by rw [List.length_take]; omega)
        by_cases hp : 0 < l.getD i 0
        · have hx16 : l.getD i 0 < 16 := by omega
          rw [if_pos (by rw [decide_eq_true_eq]; exact hp), if_pos hx.1, if_pos hx16, if_pos hx.1, if_pos hx16, if_neg (Int.not_lt.2 hx.1)]
          simp only [Option.bind_some, Sum.elim_inl]
          rw [if_pos hp] at hs1
          rw [fdiv32768 hx, e3]
          have e1 : IntKind.wrap IntKind.i64 ((shr (l.take i) : Int) + ((2 ^ (15 - (l.getD i 0).toNat) : Nat) : Int)) = ((shr (l.take (i + 1)) : Nat) : Int) := by
            rw [hs1]
            generalize (2 : Nat) ^ (15 - (l.getD i 0).toNat) = p at hs1
            rw [wrap_i64 (by omega)]; omega
          have e2 : (C (l.take i)).set (l.getD i 0).toNat (IntKind.wrap IntKind.i64 ((C (l.take i)).getD (l.getD i 0).toNat 0 + 1)) = C (l.take (i + 1)) := by
            unfold C
            rw [hn, Int.toNat_natCast, tab_get (by omega), tab_set, if_neg (by omega), wrap_i64 (by omega)]
            refine tab_ext fun j hj => ?_
            by_cases ej : j = n
            · subst ej
              rw [if_pos rfl, if_neg (by omega)]
              unfold cnt
              rw [count_take_succ h, hn, if_pos rfl]; omega
            · rw [if_neg ej]
              by_cases e0 : j = 0
              · rw [if_pos e0, if_pos e0]
              · rw [if_neg e0, if_neg e0]
                unfold cnt
                rw [count_take_succ h, hn, if_neg (by omega)]; omega
          rw [e1, e2]
          exact hI
        · rw [if_neg (by rw [decide_eq_true_eq]; exact hp)]
          simp only [Option.bind_some, Sum.elim_inl]
          rw [if_neg hp, Nat.add_zero] at hs1
          rw [e3]
          have e2 : C (l.take (i + 1)) = C (l.take i) := by
            unfold C
            refine tab_ext fun j hj => ?_
            by_cases e0 : j = 0
            · rw [if_pos e0, if_pos e0]
            · rw [if_neg e0, if_neg e0]
              unfold cnt
              rw [count_take_succ h, if_neg (by omega)]; omega
          rw [hs1, e2] at hI
          exact hI
      · refine .inr ⟨not_ok h hx, C (l.take i), ?_⟩
        by_cases h0 : l.getD i 0 < 0
        · rw [if_pos (by rw [decide_eq_true_eq]; exact h0)]; rfl
        · have h15 : 15 < l.getD i 0 := by omega
          rw [if_neg (by rw [decide_eq_true_eq]; exact h0), if_pos (by rw [decide_eq_true_eq]; exact h15)]; rfl
    · rw [if_neg (by simp; omega)]
      have : i = l.length := by omega
      subst this
      rw [List.take_length]
      refine .inl ⟨fun x hx => ?_, rfl⟩
      obtain ⟨j, hj, rfl⟩ := List.mem_iff_getElem.1 hx
      have := hb j hj
      rwa [List.getD_eq_getElem?_getD, List.getElem?_eq_getElem hj] at this
end Go.Ev.Zlib
namespace Go.Ev.Zlib
theorem f82_eqn (l : List Int) : ∃ c, f82 (l, ()) = some (c, err l, ()) ∧ (err l = 0 → c = C l ∧ l.length ≤ 320 ∧ Ok l ∧ shr l ≤ 32768) := by
  unfold f82 err
  simp only []
  by_cases hl : 320 < l.length
  · rw [if_pos (by rw [decide_eq_true_eq]; omega), if_pos hl]
    exact ⟨_, rfl, fun h => by cases h⟩
  · rw [if_neg (by rw [decide_eq_true_eq]; omega), if_neg hl]
    have h := l82_spec (l := l) (by omega) (List.replicate 16 0) 18446744073709551616 0 (by omega) (by omega) (fun j hj => by omega)
    have hC : C [] = List.replicate 16 0 := by decide
    rw [List.take_zero, hC] at h
    rw [show l82_1 = loopN g82_1 o82_1 b82_1 18446744073709551616 from rfl]
    rcases h with ⟨hk, h1⟩ | ⟨hk, c, h1⟩
    · have h1' : loopN g82_1 o82_1 b82_1 18446744073709551616 (0, l, (l.length : Int), 0, List.replicate 16 0, List.replicate 16 0, ()) = _ := h1
      rw [h1', if_pos hk]
      simp only [Option.bind_some, Sum.elim_inl]
      by_cases hs : 32768 < shr l
      · rw [if_pos (by rw [decide_eq_true_eq]; omega), if_pos hs]
        exact ⟨_, rfl, fun h => by cases h⟩
      · rw [if_neg (by rw [decide_eq_true_eq]; omega), if_neg hs]
        exact ⟨_, rfl, fun _ => ⟨rfl, by omega, hk, by omega⟩⟩
    · have h1' : loopN g82_1 o82_1 b82_1 18446744073709551616 (0, l, (l.length : Int), 0, List.replicate 16 0, List.replicate 16 0, ()) = _ := h1
      rw [h1', if_neg hk]
      exact ⟨_, rfl, fun h => by cases h⟩
end Go.Ev.Zlib
namespace Go.Ev.Zlib
def base (l : List Int) : Nat → Nat
  | 0 => 0
  | 1 => 0
  | n + 2 => 2 * (base l (n + 1) + cnt l (n + 1))
def code (l : List Int) (i : Nat) : Int := if 0 < l.getD i 0 then ((base l (l.getD i 0).toNat + cnt (l.take i) (l.getD i 0).toNat : Nat) : Int) else 0
def codes (l : List Int) : List Int := tab l.length (code l)
theorem cnt_le (l : List Int) (n : Nat) : cnt l n ≤ l.length := List.count_le_length
theorem base_le (l : List Int) : ∀ n, base l (n + 1) + 2 * l.length ≤ 2 ^ (n + 1) * l.length
  | 0 => by simp [base]
  | n + 1 => by
    have h1 := base_le l n
    have h2 := cnt_le l (n + 1)
    simp only [base]
    have e : 2 ^ (n + 1 + 1) * l.length = 2 ^ (n + 1) * l.length + 2 ^ (n + 1) * l.length := by
      rw [Nat.pow_succ 2 (n + 1), Nat.mul_comm _ 2, Nat.mul_assoc, Nat.two_mul]
    omega
theorem base_lim {l : List Int} (hl : l.length ≤ 320) {n : Nat} (hn : n ≤ 15) : base l n ≤ 10485760 := by
  cases n with
  | zero => simp [base]
  | succ n =>
    have h1 := base_le l n
    have h2 : 2 ^ (n + 1) * l.length ≤ 32768 * 320 := Nat.mul_le_mul (by
      have : (2 : Nat) ^ (n + 1) ≤ 2 ^ 15 := Nat.pow_le_pow_right (by omega) hn
      simpa using this) hl
    omega
theorem base_step {l : List Int} {n : Nat} (h : 1 ≤ n) : base l (n + 1) = 2 * (base l n + cnt l n) := by
  cases n with
  | zero => omega
  | succ n => rfl
theorem l62_1_spec {l : List Int} (hl : l.length ≤ 320) : ∀ (k n : Nat), 15 < n + k → 1 ≤ n → n ≤ 15 →
    loopN g62_1 o62_1 b62_1 k (l, (n : Int), C l, tab 16 (fun j => if j ≤ n then (base l j : Int) else 0), ()) = some (.inl (l, tab 16 (fun j => (base l j : Int)), ())) := by
  intro k
  induction k with
  | zero => intro n h1 h2 h3; omega
  | succ k ih =>
    intro n h1 h2 h3
    rw [loopN_succ]
    generalize hL : loopN g62_1 o62_1 b62_1 k = L at ih ⊢
    unfold b62_1
    simp only []
    rcases Nat.lt_or_ge n 15 with h | h
    · have e3 : IntKind.wrap IntKind.i64 ((n : Int) + 1) = ((n + 1 : Nat) : Int) := by rw [wrap_i64 (by omega)]; omega
      have h0 : (0 : Int) ≤ (n : Int) := by omega
      have h16 : (n : Int) < 16 := by omega
      rw [if_pos (by rw [decide_eq_true_eq]; omega), if_pos h0, if_pos h16, if_pos h0, if_pos h16, e3, if_pos (by omega), if_pos (by omega)]
      simp only [Option.bind_some, Sum.elim_inl, Int.toNat_natCast]
      have hb := base_lim hl (n := n) (by omega)
      have hc := cnt_le l n
      have e4 : IntKind.wrap IntKind.i64 (IntKind.wrap IntKind.i64 ((tab 16 (fun j => if j ≤ n then (base l j : Int) else 0)).getD n 0 + (C l).getD n 0) * 2) = (base l (n + 1) : Int) := by
        unfold C
        rw [tab_get (by omega), tab_get (by omega), if_pos (Nat.le_refl n), if_neg (by omega), base_step h2, wrap_i64 (n := (base l n : Int) + (cnt l n : Int)) (by omega), wrap_i64 (by omega)]
        omega
      have e5 : (tab 16 (fun j => if j ≤ n then (base l j : Int) else 0)).set (n + 1) (base l (n + 1) : Int) = tab 16 (fun j => if j ≤ n + 1 then (base l j : Int) else 0) := by
        rw [tab_set]
        refine tab_ext fun j hj => ?_
        by_cases ej : j = n + 1
        · rw [if_pos ej, if_pos (by omega), ej]
        · rw [if_neg ej]
          by_cases ej2 : j ≤ n
          · rw [if_pos ej2, if_pos (by omega)]
          · rw [if_neg ej2, if_neg (by omega)]
      have hI := ih (n + 1) (by omega) (by omega) (by omega)
      rw [← e5, ← e4] at hI
      exact hI
    · rw [if_neg (by rw [decide_eq_true_eq]; omega)]
      have : n = 15 := by omega
      subst this
      have e : tab 16 (fun j => if j ≤ 15 then (base l j : Int) else 0) = tab 16 (fun j => (base l j : Int)) := tab_ext fun j hj => by rw [if_pos (by omega)]
      rw [e]
      rfl
theorem l62_2_spec {l : List Int} (hl : l.length ≤ 320) (hk : Ok l) : ∀ (k s : Nat), l.length < s + k → s ≤ l.length →
    loopN g62_2 o62_2 b62_2 k (l, (l.length : Int), (s : Int), tab 16 (fun j => (base l j : Int) + if j = 0 then 0 else (cnt (l.take s) j : Int)), tab l.length (fun i => if i < s then code l i else 0), ()) = some (.inl (codes l, ())) := by
  intro k
  induction k with
  | zero => intro s h1 h2; omega
  | succ k ih =>
    intro s h1 h2
    rw [loopN_succ]
    generalize hL : loopN g62_2 o62_2 b62_2 k = L at ih ⊢
    unfold b62_2
    simp only [Int.toNat_natCast, if_true, Nat.zero_add, List.length_set, tab_length]
    rcases Nat.lt_or_ge s l.length with h | h
    · have hi0 : (0 : Int) ≤ (s : Int) := by omega
      have hi1 : (s : Int) < (l.length : Int) := by omega
      rw [if_pos (by rw [decide_eq_true_eq]; exact hi1), if_pos hi0, if_pos hi1]
      have hx := hk.get s
      have e3 : IntKind.wrap IntKind.i64 ((s : Int) + 1) = ((s + 1 : Nat) : Int) := by rw [wrap_i64 (by omega)]; omega
      have hI := ih (s + 1) (by omega) (by omega)
      obtain ⟨n, hn⟩ := Int.eq_ofNat_of_zero_le hx.1
      by_cases hp : 0 < l.getD s 0
      · have hx16 : l.getD s 0 < 16 := by omega
        rw [if_pos (by rw [decide_eq_true_eq]; exact hp), if_pos hx.1, if_pos hx16, if_pos hi0, if_pos hi1, if_pos hx.1, if_pos hx16, if_pos hx.1, if_pos hx16]
        simp only [Option.bind_some, Sum.elim_inl]
        have hb := base_lim hl (n := n) (by omega)
        have hc : cnt (l.take s) n ≤ 320 := Nat.le_trans (cnt_le _ _) (by rw [List.length_take]; omega)
        have hcode : code l s = (base l n : Int) + (cnt (l.take s) n : Int) := by
          unfold code
          rw [if_pos hp, hn, Int.toNat_natCast]; omega
        have e4 : (tab 16 (fun j => (base l j : Int) + if j = 0 then 0 else (cnt (l.take s) j : Int))).getD (l.getD s 0).toNat 0 = code l s := by
          rw [hn, Int.toNat_natCast, tab_get (by omega), if_neg (by omega), hcode]
        rw [e3, e4]
        have e5 : (tab 16 (fun j => (base l j : Int) + if j = 0 then 0 else (cnt (l.take s) j : Int))).set (l.getD s 0).toNat (IntKind.wrap IntKind.i64 (code l s + 1)) = tab 16 (fun j => (base l j : Int) + if j = 0 then 0 else (cnt (l.take (s + 1)) j : Int)) := by
          rw [hn, Int.toNat_natCast, tab_set, hcode, wrap_i64 (by omega)]
          refine tab_ext fun j hj => ?_
          by_cases ej : j = n
          · subst ej
            rw [if_pos rfl, if_neg (by omega)]
            unfold cnt
            rw [count_take_succ h, hn, if_pos rfl]; omega
          · rw [if_neg ej]
            by_cases e0 : j = 0
            · rw [if_pos e0, if_pos e0]
            · rw [if_neg e0, if_neg e0]
              unfold cnt
              rw [count_take_succ h, hn, if_neg (by omega)]; omega
        have e6 : (tab l.length (fun i => if i < s then code l i else 0)).set s (code l s) = tab l.length (fun i => if i < s + 1 then code l i else 0) := by
          rw [tab_set]
          refine tab_ext fun j hj => ?_
          by_cases ej : j = s
          · rw [if_pos ej, if_pos (by omega), ej]
          · rw [if_neg ej]
            by_cases ej2 : j < s
            · rw [if_pos ej2, if_pos (by omega)]
            · rw [if_neg ej2, if_neg (by omega)]
        rw [e5, e6]
        exact hI
      · rw [if_neg (by rw [decide_eq_true_eq]; exact hp)]
        simp only [Option.bind_some, Sum.elim_inl]
        rw [e3]
        have e5 : tab 16 (fun j => (base l j : Int) + if j = 0 then 0 else (cnt (l.take (s + 1)) j : Int)) = tab 16 (fun j => (base l j : Int) + if j = 0 then 0 else (cnt (l.take s) j : Int)) := by
          refine tab_ext fun j hj => ?_
          by_cases e0 : j = 0
          · rw [if_pos e0, if_pos e0]
          · rw [if_neg e0, if_neg e0]
            unfold cnt
            rw [count_take_succ h, if_neg (by omega)]; omega
        have e6 : tab l.length (fun i => if i < s + 1 then code l i else 0) = tab l.length (fun i => if i < s then code l i else 0) := by
          refine tab_ext fun j hj => ?_
          by_cases ej : j = s
          · rw [if_pos (by omega), if_neg (by omega), ej]
            unfold code
            rw [if_neg hp]
          · by_cases ej2 : j < s
            · rw [if_pos ej2, if_pos (by omega)]
            · rw [if_neg ej2, if_neg (by omega)]
        rw [e5, e6] at hI
        exact hI
    · rw [if_neg (by rw [decide_eq_true_eq]; omega)]
      have : s = l.length := by omega
      subst this
      have e : tab l.length (fun i => if i < l.length then code l i else 0) = codes l := tab_ext fun j hj => by rw [if_pos hj]
      rw [e]
      rfl
theorem f62_eqn (l : List Int) : f62 (l, ()) = some (err l, (if err l = 0 then codes l else []), ()) := by
  obtain ⟨c, h1, h2⟩ := f82_eqn l
  unfold f62
  simp only []
  rw [h1]
  simp only [Option.bind_some]
  by_cases he : err l = 0
  · obtain ⟨rfl, hl, hk, _⟩ := h2 he
    rw [if_neg (by rw [he]; simp), if_pos he]
    have h := l62_1_spec hl 18446744073709551616 1 (by omega) (by omega) (by omega)
    have e0 : tab 16 (fun j => if j ≤ 1 then (base l j : Int) else 0) = List.replicate 16 0 := by
      rw [tab_zero]
      refine tab_ext fun j hj => ?_
      by_cases hj1 : j ≤ 1
      · rw [if_pos hj1]
        have : j = 0 ∨ j = 1 := by omega
        rcases this with rfl | rfl <;> rfl
      · rw [if_neg hj1]
    rw [e0] at h
    have h' : loopN g62_1 o62_1 b62_1 18446744073709551616 (l, 1, C l, List.replicate 16 0, ()) = _ := h
    rw [show l62_1 = loopN g62_1 o62_1 b62_1 18446744073709551616 from rfl, h']
    simp only [Option.bind_some, Sum.elim_inl, Int.toNat_natCast, List.length_replicate, if_true]
    rw [if_pos (by omega), if_pos (by omega)]
    have g := l62_2_spec hl hk 18446744073709551616 0 (by omega) (by omega)
    have e1 : tab 16 (fun j => (base l j : Int) + if j = 0 then 0 else (cnt (l.take 0) j : Int)) = tab 16 (fun j => (base l j : Int)) := tab_ext fun j hj => by
      by_cases h0 : j = 0
      · rw [if_pos h0]; omega
      · rw [if_neg h0, List.take_zero]; simp [cnt]
    have e2 : tab l.length (fun i => if i < 0 then code l i else 0) = List.replicate l.length 0 := by
      rw [tab_zero]
      exact tab_ext fun j hj => by rw [if_neg (by omega)]
    rw [e1, e2] at g
    have g' : loopN g62_2 o62_2 b62_2 18446744073709551616 (l, (l.length : Int), 0, tab 16 (fun j => (base l j : Int)), List.replicate l.length 0, ()) = _ := g
    rw [show l62_2 = loopN g62_2 o62_2 b62_2 18446744073709551616 from rfl, g', he]
    simp
  · rw [if_pos (by simpa using he), if_neg he]
end Go.Ev.Zlib
namespace Go.Ev.Zlib
def sgn (l : List Int) (n s : Nat) : List Int := ((List.range s).filter fun i => l.getD i 0 == (n : Int)).map fun (i : Nat) => (i : Int)
def sgs (l : List Int) : Nat → List Int
  | 0 => []
  | n + 1 => sgs l n ++ sgn l (n + 1) l.length
def shN (l : List Int) : Nat → Nat
  | 0 => 0
  | n + 1 => shN l n + cnt l (n + 1) * 2 ^ (15 - (n + 1))
def cntT (l : List Int) (n s : Nat) : List Int := tab 16 (fun j => if j = 0 then 0 else if j ≤ n then (cnt l j : Int) else if j = n + 1 then (cnt (l.take s) j : Int) else 0)
theorem sgn_succ (l : List Int) (n s : Nat) : sgn l n (s + 1) = sgn l n s ++ (if l.getD s 0 = (n : Int) then [(s : Int)] else []) := by
  unfold sgn
  rw [List.range_succ, List.filter_append, List.map_append]
  congr 1
  by_cases h : l.getD s 0 = (n : Int)
  · rw [List.filter_cons_of_pos (by rw [h]; simp), if_pos h]; rfl
  · rw [List.filter_cons_of_neg (by simpa using h), if_neg h]; rfl
theorem sgn_length (l : List Int) (n : Nat) : ∀ s, s ≤ l.length → (sgn l n s).length = cnt (l.take s) n
  | 0, _ => by simp [sgn, cnt]
  | s + 1, h => by
    rw [sgn_succ, List.length_append, sgn_length l n s (by omega)]
    unfold cnt
    rw [count_take_succ (by omega)]
    split <;> simp
theorem pow15 {n : Nat} (h : n < 15) : (2 : Nat) ^ (15 - (n + 1)) ≤ 16384 := by
  have : (2 : Nat) ^ (15 - (n + 1)) ≤ 2 ^ 14 := Nat.pow_le_pow_right (by omega) (by omega)
  simpa using this
theorem l32_2_spec {l : List Int} (hl : l.length ≤ 320) {n : Nat} (hn : n < 15) (a : Int) (lens cds sg : List Int) (sh : Nat) (hsh : sh ≤ 100000000) (hsg : sg.length ≤ 100000) : ∀ (k s : Nat), l.length < s + k → s ≤ l.length →
    loopN g32_2 o32_2 b32_2 k (l, ((sh + cnt (l.take s) (n + 1) * 2 ^ (15 - (n + 1)) : Nat) : Int), (n : Int), a, l, (l.length : Int), (s : Int), cntT l n s, lens, cds, sg ++ sgn l (n + 1) s, ()) =
      some (.inl (l, ((sh + cnt l (n + 1) * 2 ^ (15 - (n + 1)) : Nat) : Int), a, cntT l n l.length, lens, cds, sg ++ sgn l (n + 1) l.length, ())) := by
  intro k
  induction k with
  | zero => intro s h1 h2; omega
  | succ k ih =>
    intro s h1 h2
    rw [loopN_succ]
    generalize hL : loopN g32_2 o32_2 b32_2 k = L at ih ⊢
    unfold b32_2
    simp only [Int.toNat_natCast, if_true, List.drop_zero, List.take_length, one_of]
    rcases Nat.lt_or_ge s l.length with h | h
    · have hi0 : (0 : Int) ≤ (s : Int) := by omega
      have hi1 : (s : Int) < (l.length : Int) := by omega
      have e3 : IntKind.wrap IntKind.i64 ((s : Int) + 1) = ((s + 1 : Nat) : Int) := by rw [wrap_i64 (by omega)]; omega
      have e4 : IntKind.wrap IntKind.i64 ((n : Int) + 1) = ((n + 1 : Nat) : Int) := by rw [wrap_i64 (by omega)]; omega
      have hI := ih (s + 1) (by omega) (by omega)
      have hc : cnt (l.take s) (n + 1) ≤ 320 := Nat.le_trans (cnt_le _ _) (by rw [List.length_take]; omega)
      have hcs : cnt (l.take (s + 1)) (n + 1) = cnt (l.take s) (n + 1) + if l.getD s 0 = ((n + 1 : Nat) : Int) then 1 else 0 := count_take_succ h _
      have hp := pow15 hn
      rw [if_pos (by rw [decide_eq_true_eq]; exact hi1), if_pos hi0, if_pos hi1, e4]
      by_cases hx : l.getD s 0 = ((n + 1 : Nat) : Int)
      · have hgl : (sg ++ sgn l (n + 1) s).length ≤ 200000 := by
          rw [List.length_append, sgn_length _ _ _ h2]; omega
        have hx0 : (0 : Int) ≤ l.getD s 0 := by omega
        have hx16 : l.getD s 0 < 16 := by omega
        rw [if_pos hx] at hcs
        rw [if_pos (by rw [hx]; simp), if_pos (by rw [List.length_singleton]; omega), if_pos hx0, if_pos hx16, if_pos hx0, if_pos hx16, if_neg (Int.not_lt.2 hx0)]
        simp only [Option.bind_some, Sum.elim_inl]
        rw [fdiv32768 ⟨hx0, by omega⟩, e3]
        have e5 : IntKind.wrap IntKind.i64 (((sh + cnt (l.take s) (n + 1) * 2 ^ (15 - (n + 1)) : Nat) : Int) + ((2 ^ (15 - (l.getD s 0).toNat) : Nat) : Int)) = ((sh + cnt (l.take (s + 1)) (n + 1) * 2 ^ (15 - (n + 1)) : Nat) : Int) := by
          rw [hx, Int.toNat_natCast, hcs, Nat.add_mul, Nat.one_mul]
          generalize (2 : Nat) ^ (15 - (n + 1)) = p at hp
          have : cnt (l.take s) (n + 1) * p ≤ 320 * 16384 := Nat.mul_le_mul hc hp
          generalize cnt (l.take s) (n + 1) * p = q at this
          rw [wrap_i64 (by omega)]; omega
        have e6 : (cntT l n s).set (l.getD s 0).toNat (IntKind.wrap IntKind.i64 ((cntT l n s).getD (l.getD s 0).toNat 0 + 1)) = cntT l n (s + 1) := by
          rw [hx, Int.toNat_natCast]
          unfold cntT
          rw [tab_get (by omega), tab_set, if_neg (by omega), if_neg (by omega), if_pos rfl, wrap_i64 (by omega)]
          refine tab_ext fun j hj => ?_
          by_cases ej : j = n + 1
          · subst ej
            rw [if_pos rfl, if_neg (by omega), if_neg (by omega), if_pos rfl, hcs]; omega
          · rw [if_neg ej]
            by_cases e0 : j = 0
            · rw [if_pos e0, if_pos e0]
            · rw [if_neg e0, if_neg e0]
              by_cases e1 : j ≤ n
              · rw [if_pos e1, if_pos e1]
              · rw [if_neg e1, if_neg e1, if_neg ej, if_neg ej]
        have e7 : sg ++ sgn l (n + 1) s ++ [(s : Int)] = sg ++ sgn l (n + 1) (s + 1) := by rw [sgn_succ, if_pos hx, List.append_assoc]
        rw [e5, e6, e7]
        exact hI
      · rw [if_neg (by simpa using hx)]
        simp only [Option.bind_some, Sum.elim_inl]
        rw [if_neg hx] at hcs
        have e6 : cntT l n (s + 1) = cntT l n s := by
          unfold cntT
          refine tab_ext fun j hj => ?_
          by_cases ej : j = n + 1
          · subst ej
            rw [if_neg (by omega), if_neg (by omega), if_pos rfl, if_neg (by omega), if_neg (by omega), if_pos rfl, hcs]; omega
          · rw [if_neg ej, if_neg ej]
        have e7 : sgn l (n + 1) (s + 1) = sgn l (n + 1) s := by rw [sgn_succ, if_neg hx, List.append_nil]
        rw [e6, e7, hcs, Nat.add_zero] at hI
        rw [e3]
        exact hI
    · rw [if_neg (by rw [decide_eq_true_eq]; omega)]
      have : s = l.length := by omega
      subst this
      rw [List.take_length]
      rfl
end Go.Ev.Zlib
namespace Go.Ev.Zlib
def cntU (l : List Int) (n : Nat) : List Int := tab 16 (fun j => if j = 0 then 0 else if j ≤ n then (cnt l j : Int) else 0)
theorem sgs_length (l : List Int) : ∀ n, (sgs l n).length ≤ n * l.length
  | 0 => by simp [sgs]
  | n + 1 => by
    have h1 := sgs_length l n
    have h2 := cnt_le l (n + 1)
    simp only [sgs, List.length_append, sgn_length l (n + 1) l.length (Nat.le_refl _), List.take_length, Nat.add_mul, Nat.one_mul]
    omega
theorem shN_le (l : List Int) (hl : l.length ≤ 320) : ∀ n, n ≤ 15 → shN l n ≤ n * 5242880
  | 0, _ => by simp [shN]
  | n + 1, h => by
    have h1 := shN_le l hl n (by omega)
    have h2 := cnt_le l (n + 1)
    have h3 : cnt l (n + 1) * 2 ^ (15 - (n + 1)) ≤ 320 * 16384 := Nat.mul_le_mul (by omega) (pow15 (by omega))
    simp only [shN, Nat.add_mul]
    omega
theorem l32_1_spec {l : List Int} (hl : l.length ≤ 320) (lens cds : List Int) : ∀ (k n : Nat), 15 < n + k → n ≤ 15 →
    loopN g32_1 o32_1 b32_1 k (l, (shN l n : Int), (n : Int), cntU l n, lens, cds, sgs l n, ()) = some (.inl ((shN l 15 : Int), cntU l 15, lens, cds, sgs l 15, ())) := by
  intro k
  induction k with
  | zero => intro n h1 h2; omega
  | succ k ih =>
    intro n h1 h2
    rw [loopN_succ]
    generalize hL : loopN g32_1 o32_1 b32_1 k = L at ih ⊢
    unfold b32_1
    simp only [if_true]
    rcases Nat.lt_or_ge n 15 with h | h
    · rw [if_pos (by rw [decide_eq_true_eq]; omega)]
      have hsl := sgs_length l n
      have hshl := shN_le l hl n (by omega)
      have hm : n * l.length ≤ 15 * 320 := Nat.mul_le_mul (by omega) hl
      have g := l32_2_spec hl h (n : Int) lens cds (sgs l n) (shN l n) (by omega) (by omega) 18446744073709551616 0 (by omega) (by omega)
      have e0 : cnt (l.take 0) (n + 1) = 0 := by simp [cnt]
      have e1 : sgn l (n + 1) 0 = [] := by simp [sgn]
      have e2 : cntT l n 0 = cntU l n := by
        unfold cntT cntU
        refine tab_ext fun j hj => ?_
        by_cases h0 : j = 0
        · rw [if_pos h0, if_pos h0]
        · rw [if_neg h0, if_neg h0]
          by_cases h1 : j ≤ n
          · rw [if_pos h1, if_pos h1]
          · rw [if_neg h1, if_neg h1, List.take_zero]; simp [cnt]
      rw [e0, Nat.zero_mul, Nat.add_zero, e1, List.append_nil, e2] at g
      have g' : loopN g32_2 o32_2 b32_2 18446744073709551616 (l, (shN l n : Int), (n : Int), (n : Int), l, (l.length : Int), 0, cntU l n, lens, cds, sgs l n, ()) = _ := g
      rw [show l32_2 = loopN g32_2 o32_2 b32_2 18446744073709551616 from rfl, g']
      simp only [Option.bind_some, Sum.elim_inl]
      have e3 : IntKind.wrap IntKind.i64 ((n : Int) + 1) = ((n + 1 : Nat) : Int) := by rw [wrap_i64 (by omega)]; omega
      have e4 : cntT l n l.length = cntU l (n + 1) := by
        unfold cntT cntU
        refine tab_ext fun j hj => ?_
        by_cases h0 : j = 0
        · rw [if_pos h0, if_pos h0]
        · rw [if_neg h0, if_neg h0, List.take_length]
          by_cases h1 : j ≤ n
          · rw [if_pos h1, if_pos (by omega)]
          · rw [if_neg h1]
            by_cases h2 : j = n + 1
            · rw [if_pos h2, if_pos (by omega)]
            · rw [if_neg h2, if_neg (by omega)]
      rw [e3, e4]
      exact ih (n + 1) (by omega) (by omega)
    · rw [if_neg (by rw [decide_eq_true_eq]; omega)]
      have : n = 15 := by omega
      subst this
      rfl
end Go.Ev.Zlib
namespace Go.Ev.Zlib
theorem shN_cons (x : Int) (l : List Int) (hx : 0 ≤ x ∧ x ≤ 15) : ∀ n, shN (x :: l) n = shN l n + (if 0 < x ∧ x ≤ (n : Int) then 2 ^ (15 - x.toNat) else 0)
  | 0 => by
    rw [if_neg (by omega)]; simp [shN]
  | n + 1 => by
    simp only [shN, shN_cons x l hx n]
    have hc : cnt (x :: l) (n + 1) = cnt l (n + 1) + if x = ((n + 1 : Nat) : Int) then 1 else 0 := by
      unfold cnt
      rw [List.count_cons]
      by_cases h : x = ((n + 1 : Nat) : Int)
      · rw [if_pos h, if_pos (by simpa using h)]
      · rw [if_neg h, if_neg (by simpa using h)]
    rw [hc, Nat.add_mul]
    by_cases h : x = ((n + 1 : Nat) : Int)
    · rw [if_pos h, if_neg (by omega), if_pos (by omega), h, Int.toNat_natCast, Nat.one_mul]; omega
    · rw [if_neg h, Nat.zero_mul]
      by_cases h2 : 0 < x ∧ x ≤ (n : Int)
      · rw [if_pos h2, if_pos (by omega)]; omega
      · rw [if_neg h2, if_neg (by omega)]; omega
theorem shN_shr : ∀ {l : List Int}, Ok l → shN l 15 = shr l
  | [], _ => by simp [shr, shN, cnt]
  | x :: l, h => by
    have hx := h x (List.mem_cons_self ..)
    rw [shN_cons x l hx 15, shN_shr (fun y hy => h y (List.mem_cons_of_mem _ hy))]
    simp only [shr]
    by_cases h2 : 0 < x
    · rw [if_pos h2, if_pos (by omega)]; omega
    · rw [if_neg h2, if_neg (by omega)]; omega
end Go.Ev.Zlib
namespace Go.Ev.Zlib
def words (l : List Int) : Nat := (sgs l 15).length
theorem cntU_C (l : List Int) : cntU l 15 = C l := by
  unfold cntU C
  refine tab_ext fun j hj => ?_
  by_cases h0 : j = 0
  · rw [if_pos h0, if_pos h0]
  · rw [if_neg h0, if_neg h0, if_pos (by omega)]
theorem f63_eqn {l : List Int} (hl : l.length ≤ 100000) : f63 (l, ()) = some (l, ()) := by
  unfold f63
  have e : List.take 0 (List.drop 0 (List.replicate 0 (0 : Int))) = [] := rfl
  simp only [e, List.nil_append, if_true]
  by_cases h : l.length = 0
  · have hn : l = [] := List.eq_nil_of_length_eq_zero h
    subst hn
    rfl
  · rw [if_neg h, if_pos (by omega)]
noncomputable def errM (l : List Int) : Int := if err l = 0 then (if shr l < 32768 ∧ 0 < words l ∧ (1 < words l ∨ cnt l 1 = 0) then 4 else 0) else err l
theorem err_ok {l : List Int} (h : err l = 0) : l.length ≤ 320 ∧ Ok l ∧ shr l ≤ 32768 := by
  obtain ⟨c, _, h2⟩ := f82_eqn l
  obtain ⟨_, h3⟩ := h2 h
  exact h3
theorem errM_pos {l : List Int} (he : err l = 0) (h : shr l < 32768 ∧ 0 < words l ∧ (1 < words l ∨ cnt l 1 = 0)) : errM l = 4 := by
  unfold errM; rw [if_pos he, if_pos h]
theorem errM_neg {l : List Int} (he : err l = 0) (h : ¬ (shr l < 32768 ∧ 0 < words l ∧ (1 < words l ∨ cnt l 1 = 0))) : errM l = 0 := by
  unfold errM; rw [if_pos he, if_neg h]
theorem f32_eqn (l : List Int) : f32 (l, ()) = if errM l = 0 then some (.inr (0, C l, l, codes l, sgs l 15, ())) else some (.inl (errM l, ())) := by
  unfold f32
  rw [f62_eqn]
  simp only [Option.bind_some]
  by_cases he : err l = 0
  · obtain ⟨hl, hk, hs⟩ := err_ok he
    rw [if_neg (by rw [he]; simp), if_pos he, f63_eqn (by omega)]
    simp only [Option.bind_some, List.drop_zero, List.take_length]
    have g := l32_1_spec hl l (codes l) 18446744073709551616 0 (by omega) (by omega)
    have e0 : cntU l 0 = List.replicate 16 0 := by
      rw [tab_zero]
      exact tab_ext fun j hj => by
        by_cases h0 : j = 0
        · rw [if_pos h0]
        · rw [if_neg h0, if_neg (by omega)]
    rw [e0, cntU_C, shN_shr hk] at g
    have g' : loopN g32_1 o32_1 b32_1 18446744073709551616 (l, 0, 0, List.replicate 16 0, l, codes l, [], ()) = _ := g
    rw [show l32_1 = loopN g32_1 o32_1 b32_1 18446744073709551616 from rfl]
    generalize loopN g32_1 o32_1 b32_1 18446744073709551616 (l, 0, 0, List.replicate 16 0, l, codes l, [], ()) = X at g' ⊢
    subst g'
    rw [Option.bind_some, Sum.elim_inl]
    dsimp only
    rw [if_pos (trivial : True)]
    have ec : (C l).getD 1 0 = (cnt l 1 : Int) := by unfold C; rw [tab_get (by omega), if_neg (by omega)]
    have hwd : (sgs l 15).length = words l := rfl
    rw [ec, hwd]
    by_cases h1 : shr l < 32768
    · rw [if_pos (by rw [decide_eq_true_eq]; omega)]
      by_cases h2 : 0 < words l
      · rw [if_pos (by rw [decide_eq_true_eq]; omega)]
        by_cases h3 : 1 < words l
        · rw [errM_pos he ⟨h1, h2, .inl h3⟩, if_pos (by rw [decide_eq_true_eq]; omega), if_neg (by decide)]
        · by_cases h4 : cnt l 1 = 0
          · rw [errM_pos he ⟨h1, h2, .inr h4⟩, if_neg (by rw [decide_eq_true_eq]; omega), if_pos (by rw [beq_iff_eq, h4]; rfl), if_neg (by decide)]
          · rw [errM_neg he (fun h => h.2.2.elim h3 h4), if_neg (by rw [decide_eq_true_eq]; omega), if_neg (fun h => h4 (Int.natCast_eq_zero.1 (eq_of_beq h))), if_pos rfl]
      · rw [errM_neg he (fun h => h2 h.2.1), if_neg (by rw [decide_eq_true_eq]; omega), if_pos rfl]
    · rw [errM_neg he (fun h => h1 h.1), if_neg (by rw [decide_eq_true_eq]; omega), if_pos rfl]
  · have hm : errM l = err l := by unfold errM; rw [if_neg he]
    rw [if_pos (by simpa using he), hm, if_neg he]
end Go.Ev.Zlib
namespace Go.Ev.Zlib
theorem sgn_get (l : List Int) (n : Nat) : ∀ s0, s0 ≤ l.length → ∀ k, k < cnt (l.take s0) n → ∃ s, s < s0 ∧ (sgn l n s0).getD k 0 = (s : Int) ∧ l.getD s 0 = (n : Int) ∧ cnt (l.take s) n = k
  | 0, _, k, h => by simp [cnt] at h
  | s0 + 1, h0, k, h => by
    have hl := sgn_length l n s0 (by omega)
    rw [sgn_succ]
    by_cases c : k < cnt (l.take s0) n
    · obtain ⟨s, h1, h2, h3, h4⟩ := sgn_get l n s0 (by omega) k c
      refine ⟨s, by omega, ?_, h3, h4⟩
      rw [List.getD_eq_getElem?_getD, List.getElem?_append_left (by rw [hl]; exact c), ← List.getD_eq_getElem?_getD]
      exact h2
    · have hc : cnt (l.take (s0 + 1)) n = cnt (l.take s0) n + if l.getD s0 0 = (n : Int) then 1 else 0 := count_take_succ (by omega) _
      by_cases e : l.getD s0 0 = (n : Int)
      · rw [if_pos e] at hc
        refine ⟨s0, by omega, ?_, e, by omega⟩
        rw [if_pos e, List.getD_eq_getElem?_getD, List.getElem?_append_right (by rw [hl]; omega), hl, show k - cnt (l.take s0) n = 0 by omega]
        rfl
      · rw [if_neg e] at hc
        omega
theorem cnt_take_le (l : List Int) (n : Nat) {i j : Nat} (h : i ≤ j) : cnt (l.take i) n ≤ cnt (l.take j) n := by
  unfold cnt
  have e : l.take j = l.take i ++ (l.take j).drop i := by
    conv => lhs; rw [← List.take_append_drop i (l.take j), List.take_take, Nat.min_eq_left h]
  rw [e, List.count_append]
  omega
theorem cnt_take_lt {l : List Int} {n s j : Nat} (hs : s < l.length) (h : l.getD s 0 = (n : Int)) (hj : s < j) : cnt (l.take s) n < cnt (l.take j) n := by
  have hc : cnt (l.take (s + 1)) n = cnt (l.take s) n + if l.getD s 0 = (n : Int) then 1 else 0 := count_take_succ hs _
  rw [if_pos h] at hc
  have := cnt_take_le l n (i := s + 1) (j := j) (by omega)
  omega
theorem sgn_at {l : List Int} {n s : Nat} (hs : s < l.length) (h : l.getD s 0 = (n : Int)) : cnt (l.take s) n < cnt l n ∧ (sgn l n l.length).getD (cnt (l.take s) n) 0 = (s : Int) := by
  have h1 := cnt_take_lt hs h hs
  rw [List.take_length] at h1
  refine ⟨h1, ?_⟩
  obtain ⟨t, t1, t2, t3, t4⟩ := sgn_get l n l.length (Nat.le_refl _) (cnt (l.take s) n) (by rw [List.take_length]; exact h1)
  rw [t2]
  rcases Nat.lt_trichotomy s t with e | e | e
  · have := cnt_take_lt hs h e; omega
  · rw [e]
  · have := cnt_take_lt t1 t3 e; omega
def look (l : List Int) (n v : Nat) : Option Int := if base l n ≤ v ∧ v - base l n < cnt l n then some ((sgn l n l.length).getD (v - base l n) 0) else none
theorem code_of {l : List Int} {n s : Nat} (hn : 1 ≤ n) (h : l.getD s 0 = (n : Int)) : code l s = ((base l n + cnt (l.take s) n : Nat) : Int) := by
  unfold code
  rw [h, if_pos (by omega), Int.toNat_natCast]
theorem look_some {l : List Int} {n v : Nat} (hn : 1 ≤ n) {x : Int} (h : look l n v = some x) : ∃ s, s < l.length ∧ x = (s : Int) ∧ l.getD s 0 = (n : Int) ∧ code l s = (v : Int) := by
  unfold look at h
  by_cases c : base l n ≤ v ∧ v - base l n < cnt l n
  · rw [if_pos c] at h
    obtain ⟨s, h1, h2, h3, h4⟩ := sgn_get l n l.length (Nat.le_refl _) (v - base l n) (by rw [List.take_length]; exact c.2)
    refine ⟨s, h1, ?_, h3, ?_⟩
    · rw [← h2]; exact (Option.some.inj h).symm
    · rw [code_of hn h3, h4]; omega
  · rw [if_neg c] at h; cases h
theorem look_at {l : List Int} {n s : Nat} (hn : 1 ≤ n) (hs : s < l.length) (h : l.getD s 0 = (n : Int)) {v : Nat} (hv : code l s = (v : Int)) : look l n v = some (s : Int) := by
  obtain ⟨h1, h2⟩ := sgn_at hs h
  rw [code_of hn h] at hv
  unfold look
  rw [if_pos (by omega), show v - base l n = cnt (l.take s) n by omega, h2]
theorem sgs_prefix (l : List Int) (n : Nat) : ∀ d, ∃ t, sgs l (n + d) = sgs l n ++ t
  | 0 => ⟨[], by rw [List.append_nil]; rfl⟩
  | d + 1 => by
    obtain ⟨t, h⟩ := sgs_prefix l n d
    exact ⟨t ++ sgn l (n + d + 1) l.length, by rw [show n + (d + 1) = (n + d) + 1 from rfl, sgs, h, List.append_assoc]⟩
theorem sgs_get {l : List Int} {n : Nat} (hn : n + 1 ≤ 15) {k : Nat} (hk : k < cnt l (n + 1)) : (sgs l n).length + k < (sgs l 15).length ∧ (sgs l 15).getD ((sgs l n).length + k) 0 = (sgn l (n + 1) l.length).getD k 0 := by
  obtain ⟨t, h⟩ := sgs_prefix l (n + 1) (15 - (n + 1))
  rw [show n + 1 + (15 - (n + 1)) = 15 by omega] at h
  have hl : (sgn l (n + 1) l.length).length = cnt l (n + 1) := by rw [sgn_length l (n + 1) l.length (Nat.le_refl _), List.take_length]
  rw [h, sgs, List.length_append, List.length_append, hl]
  refine ⟨by omega, ?_⟩
  rw [List.getD_eq_getElem?_getD, List.append_assoc, List.getElem?_append_right (by omega), show (sgs l n).length + k - (sgs l n).length = k by omega, List.getElem?_append_left (by rw [hl]; exact hk), ← List.getD_eq_getElem?_getD]
theorem sgs_step (l : List Int) (n : Nat) : (sgs l (n + 1)).length = (sgs l n).length + cnt l (n + 1) := by
  rw [sgs, List.length_append, sgn_length l (n + 1) l.length (Nat.le_refl _), List.take_length]
theorem C_get (l : List Int) {n : Nat} (h1 : 1 ≤ n) (h2 : n ≤ 15) : (C l).getD n 0 = (cnt l n : Int) := by
  unfold C
  rw [tab_get (by omega), if_neg (by omega)]
def readR (l b : List Int) : Nat → Nat → Nat → Nat → Option (Int × Int) × Nat
  | 0, _, p, _ => (none, p)
  | r + 1, n, p, v => if p + 1 ≤ 8 * b.length then (match look l n (2 * v + bitsAt b p 1) with | some s => (some (s, 0), p + 1) | none => readR l b r (n + 1) (p + 1) (2 * v + bitsAt b p 1)) else (some (0, 6), p)
theorem or_bit {v : Nat} (hv : v < 100000000) {x : Nat} (hx : x < 2) : IntKind.wrap .i64 (((BitVec.ofInt 64 (IntKind.wrap .i64 ((v : Int) * 2)) ||| BitVec.ofInt 64 (x : Int)).toNat : Nat) : Int) = ((2 * v + x : Nat) : Int) := by
  rw [wrap_i64 (n := (v : Int) * 2) (by omega), show (v : Int) * 2 = ((v * 2 ^ 1 : Nat) : Int) by omega, or64 (by omega) (by omega), Nat.or_comm, or_split v (by omega : x < 2 ^ 1), wrap_i64 (by omega)]
  omega
theorem b86_2_eqn (l : List Int) (v f at' : Int) {n : Nat} (h1 : 1 ≤ n) (h2 : n ≤ 15) (k : Int) (x7 x8 x9 : List Int) (b' : List Int) (a w m : Int) :
    b86_2 (v, f, at', (n : Int), k, C l, x7, x8, x9, b', a, w, m, ()) = some (.inl (v, f, at', (n : Int), k, decide (0 ≤ k ∧ k < (cnt l n : Int)), C l, x7, x8, x9, b', a, w, m, ())) := by
  unfold b86_2
  dsimp only
  by_cases c : 0 ≤ k
  · rw [if_pos (decide_eq_true c), if_pos (by omega), if_pos (by omega), if_pos rfl, Int.toNat_natCast, C_get l h1 h2]
    refine congrArg (fun q => some (Sum.inl (v, f, at', (n : Int), k, q, C l, x7, x8, x9, b', a, w, m, ()))) ?_
    rw [Bool.eq_iff_iff, decide_eq_true_eq, decide_eq_true_eq]
    exact ⟨fun h => ⟨c, h⟩, fun h => h.2⟩
  · rw [if_neg (fun h => c (of_decide_eq_true h)), if_pos rfl]
    refine congrArg (fun q => some (Sum.inl (v, f, at', (n : Int), k, q, C l, x7, x8, x9, b', a, w, m, ()))) ?_
    rw [decide_eq_false (fun h => c h.1)]
theorem l86_1_spec {l : List Int} (hl : l.length ≤ 320) {b : List Int} (hb : IsB b) (hbl : b.length ≤ 100000) (x7 x8 : List Int) : ∀ (r k n p v f : Nat), n + r = 15 → r < k → p ≤ 8 * b.length → v < 2 ^ n → 2 * f = base l (n + 1) →
    loopN g86_1 o86_1 b86_1 k ((v : Int), (f : Int), (((sgs l n).length : Nat) : Int), ((n + 1 : Nat) : Int), C l, x7, x8, sgs l 15, b, ((ra p : Nat) : Int), ((rw' b p : Nat) : Int), ((rm p : Nat) : Int), ()) =
      (match readR l b r (n + 1) p v with
      | (none, p') => some (.inl (C l, x7, x8, sgs l 15, b, ((ra p' : Nat) : Int), ((rw' b p' : Nat) : Int), ((rm p' : Nat) : Int), ()))
      | (some (s, e), p') => some (.inr (.inl (s, e, C l, x7, x8, sgs l 15, b, ((ra p' : Nat) : Int), ((rw' b p' : Nat) : Int), ((rm p' : Nat) : Int), ())))) := by
  intro r
  induction r with
  | zero =>
    intro k n p v f h1 h2 h3 h4 h5
    obtain ⟨k, rfl⟩ : ∃ j, k = j + 1 := ⟨k - 1, by omega⟩
    rw [loopN_succ]
    generalize loopN g86_1 o86_1 b86_1 k = L
    unfold b86_1
    dsimp only
    rw [if_neg (by rw [decide_eq_true_eq]; omega), if_pos rfl]
    rfl
  | succ r ih =>
    intro k n p v f h1 h2 h3 h4 h5
    obtain ⟨k, rfl⟩ : ∃ j, k = j + 1 := ⟨k - 1, by omega⟩
    have ih := ih k
    rw [loopN_succ]
    generalize hL : loopN g86_1 o86_1 b86_1 k = L at ih ⊢
    unfold b86_1 readR
    dsimp only
    have hp15 : (2 : Nat) ^ n ≤ 32768 := by
      have : (2 : Nat) ^ n ≤ 2 ^ 15 := Nat.pow_le_pow_right (by omega) (by omega)
      simpa using this
    have hbs := base_lim hl (n := n + 1) (by omega)
    have hcn := cnt_le l (n + 1)
    have hsl := sgs_length l n
    have hsl' : n * l.length ≤ 15 * 320 := Nat.mul_le_mul (by omega) hl
    rw [if_pos (by rw [decide_eq_true_eq]; omega)]
    by_cases c : p + 1 ≤ 8 * b.length
    · have hx := bitsAt_lt b p 1
      have hf := f72_eqn hb hbl (p := p) (n := 1) (by omega) c
      generalize bitsAt b p 1 = x at hx hf ⊢
      have hx' : x < 2 := hx
      have hf' : f72 (1, b, ((ra p : Nat) : Int), ((rw' b p : Nat) : Int), ((rm p : Nat) : Int), ()) = _ := hf
      rw [if_pos c, hf', Option.bind_some]
      dsimp only
      rw [if_neg (by decide), if_pos rfl, or_bit (by omega) hx']
      have w1 : IntKind.wrap .i64 ((f : Int) * 2) = ((base l (n + 1) : Nat) : Int) := by rw [wrap_i64 (by omega)]; omega
      rw [w1]
      have w2 : IntKind.wrap .i64 (((2 * v + x : Nat) : Int) - ((base l (n + 1) : Nat) : Int)) = ((2 * v + x : Nat) : Int) - ((base l (n + 1) : Nat) : Int) := wrap_i64 (by omega)
      rw [w2, b86_2_eqn l _ _ _ (by omega) (by omega), Option.bind_some, Sum.elim_inl]
      dsimp only
      by_cases c2 : base l (n + 1) ≤ 2 * v + x ∧ 2 * v + x - base l (n + 1) < cnt l (n + 1)
      · have hk : look l (n + 1) (2 * v + x) = some ((sgn l (n + 1) l.length).getD (2 * v + x - base l (n + 1)) 0) := by unfold look; rw [if_pos c2]
        obtain ⟨g1, g2⟩ := sgs_get (l := l) (n := n) (by omega) c2.2
        have w3 : IntKind.wrap .i64 ((((sgs l n).length : Nat) : Int) + (((2 * v + x : Nat) : Int) - ((base l (n + 1) : Nat) : Int))) = (((sgs l n).length + (2 * v + x - base l (n + 1)) : Nat) : Int) := by rw [wrap_i64 (by omega)]; omega
        rw [hk, if_pos (by rw [decide_eq_true_eq]; omega), w3, if_pos (by omega), if_pos (by omega), if_pos rfl, Int.toNat_natCast, Nat.zero_add, g2]
        rfl
      · have hk : look l (n + 1) (2 * v + x) = none := by unfold look; rw [if_neg c2]
        have w3 : IntKind.wrap .i64 (((base l (n + 1) : Nat) : Int) + (cnt l (n + 1) : Int)) = ((base l (n + 1) + cnt l (n + 1) : Nat) : Int) := by rw [wrap_i64 (by omega)]; omega
        have w4 : IntKind.wrap .i64 ((((sgs l n).length : Nat) : Int) + (cnt l (n + 1) : Int)) = (((sgs l (n + 1)).length : Nat) : Int) := by rw [sgs_step, wrap_i64 (by omega)]; omega
        rw [hk, if_neg (by rw [decide_eq_true_eq]; omega), if_pos (by omega), if_pos (by omega), if_pos (by omega), if_pos (by omega), if_pos rfl, Int.toNat_natCast, C_get l (by omega) (by omega), w3, w4, Option.bind_some, Sum.elim_inl, show IntKind.wrap .i64 (((n + 1 : Nat) : Int) + 1) = ((n + 1 + 1 : Nat) : Int) by rw [wrap_i64 (by omega)]; omega]
        exact ih (n + 1) (p + 1) (2 * v + x) (base l (n + 1) + cnt l (n + 1)) (by omega) (by omega) c (by rw [Nat.pow_succ]; omega) (base_step (by omega)).symm
    · have hf := f72_more (b := b) hbl (p := p) (n := 1) h3 (by omega) (by omega)
      have hf' : f72 (1, b, ((ra p : Nat) : Int), ((rw' b p : Nat) : Int), ((rm p : Nat) : Int), ()) = _ := hf
      rw [if_neg c, hf', Option.bind_some]
      dsimp only
      rw [if_pos (by decide), if_pos rfl]
      rfl
def readH (l b : List Int) (p : Nat) : Int × Int × Nat := match readR l b 15 1 p 0 with | (none, p') => (0, 4, p') | (some (s, e), p') => (s, e, p')
theorem f86_eqn {l : List Int} (hl : l.length ≤ 320) {b : List Int} (hb : IsB b) (hbl : b.length ≤ 100000) (x7 x8 : List Int) {p : Nat} (hp : p ≤ 8 * b.length) :
    f86 (C l, x7, x8, sgs l 15, b, ((ra p : Nat) : Int), ((rw' b p : Nat) : Int), ((rm p : Nat) : Int), ()) = some ((readH l b p).1, (readH l b p).2.1, C l, x7, x8, sgs l 15, b, ((ra ((readH l b p).2.2) : Nat) : Int), ((rw' b ((readH l b p).2.2) : Nat) : Int), ((rm ((readH l b p).2.2) : Nat) : Int), ()) := by
  have h := l86_1_spec hl hb hbl x7 x8 15 18446744073709551616 0 p 0 0 rfl (by omega) hp (by decide) rfl
  have h' : loopN g86_1 o86_1 b86_1 18446744073709551616 (0, 0, 0, 1, C l, x7, x8, sgs l 15, b, ((ra p : Nat) : Int), ((rw' b p : Nat) : Int), ((rm p : Nat) : Int), ()) = _ := h
  unfold f86 readH
  dsimp only
  rw [if_pos rfl, show l86_1 = loopN g86_1 o86_1 b86_1 18446744073709551616 from rfl, h']
  generalize readR l b 15 (0 + 1) p 0 = q
  obtain ⟨o, p'⟩ := q
  cases o with
  | none =>
    dsimp only
    rw [Option.bind_some, Sum.elim_inl, if_pos rfl]
  | some o =>
    obtain ⟨s, e⟩ := o
    dsimp only
    rw [Option.bind_some, Sum.elim_inr, Sum.elim_inl, if_pos rfl]
theorem readR_le (l b : List Int) : ∀ (r n p v : Nat), p ≤ 8 * b.length → p ≤ (readR l b r n p v).2 ∧ (readR l b r n p v).2 ≤ 8 * b.length
  | 0, n, p, v, h => ⟨Nat.le_refl _, h⟩
  | r + 1, n, p, v, h => by
    unfold readR
    by_cases c : p + 1 ≤ 8 * b.length
    · rw [if_pos c]
      cases look l n (2 * v + bitsAt b p 1) with
      | some s => exact ⟨Nat.le_succ _, c⟩
      | none =>
        have := readR_le l b r (n + 1) (p + 1) (2 * v + bitsAt b p 1) c
        exact ⟨by dsimp only; omega, this.2⟩
    · rw [if_neg c]
      exact ⟨Nat.le_refl _, h⟩
theorem readH_le (l b : List Int) {p : Nat} (h : p ≤ 8 * b.length) : p ≤ (readH l b p).2.2 ∧ (readH l b p).2.2 ≤ 8 * b.length := by
  have := readR_le l b 15 1 p 0 h
  unfold readH
  generalize readR l b 15 1 p 0 = q at this ⊢
  obtain ⟨o, p'⟩ := q
  cases o with
  | none => exact this
  | some o => exact this
theorem readH_lt (l b : List Int) (p : Nat) : (readH l b p).2.1 = 6 ∨ p < (readH l b p).2.2 := by
  unfold readH readR
  by_cases c : p + 1 ≤ 8 * b.length
  · rw [if_pos c]
    right
    cases look l 1 (2 * 0 + bitsAt b p 1) with
    | some s => exact Nat.lt_succ_self _
    | none =>
      have := readR_le l b 14 (1 + 1) (p + 1) (2 * 0 + bitsAt b p 1) c
      dsimp only
      generalize readR l b 14 (1 + 1) (p + 1) (2 * 0 + bitsAt b p 1) = q at this ⊢
      obtain ⟨o, p'⟩ := q
      cases o with
      | none => dsimp only at this ⊢; omega
      | some o => dsimp only at this ⊢; omega
  · rw [if_neg c]
    exact .inl rfl
end Go.Ev.Zlib
namespace Go.Ev.Zlib
def lenB (s : Nat) : Nat × Nat := if s = 285 then (258, 0) else if s < 265 then (s - 254, 0) else (3 + (4 + (s - 257) % 4) * 2 ^ ((s - 257) / 4 - 1), (s - 257) / 4 - 1)
def bkB (s : Nat) : Nat × Nat := if s < 4 then (1 + s, 0) else (1 + (2 + s % 2) * 2 ^ (s / 2 - 1), s / 2 - 1)
theorem f87_eqn {s : Nat} (h1 : 257 ≤ s) (h2 : s ≤ 285) : f87 ((s : Int), ()) = some (((lenB s).1 : Int), ((lenB s).2 : Int), ()) := by
  have h : s = 257 ∨ s = 258 ∨ s = 259 ∨ s = 260 ∨ s = 261 ∨ s = 262 ∨ s = 263 ∨ s = 264 ∨ s = 265 ∨ s = 266 ∨ s = 267 ∨ s = 268 ∨ s = 269 ∨ s = 270 ∨ s = 271 ∨ s = 272 ∨ s = 273 ∨ s = 274 ∨ s = 275 ∨ s = 276 ∨ s = 277 ∨ s = 278 ∨ s = 279 ∨ s = 280 ∨ s = 281 ∨ s = 282 ∨ s = 283 ∨ s = 284 ∨ s = 285 := by omega
  rcases h with rfl | rfl | rfl | rfl | rfl | rfl | rfl | rfl | rfl | rfl | rfl | rfl | rfl | rfl | rfl | rfl | rfl | rfl | rfl | rfl | rfl | rfl | rfl | rfl | rfl | rfl | rfl | rfl | rfl <;> rfl
theorem f88_eqn {s : Nat} (h2 : s < 30) : f88 ((s : Int), ()) = some (((bkB s).1 : Int), ((bkB s).2 : Int), ()) := by
  have h : s = 0 ∨ s = 1 ∨ s = 2 ∨ s = 3 ∨ s = 4 ∨ s = 5 ∨ s = 6 ∨ s = 7 ∨ s = 8 ∨ s = 9 ∨ s = 10 ∨ s = 11 ∨ s = 12 ∨ s = 13 ∨ s = 14 ∨ s = 15 ∨ s = 16 ∨ s = 17 ∨ s = 18 ∨ s = 19 ∨ s = 20 ∨ s = 21 ∨ s = 22 ∨ s = 23 ∨ s = 24 ∨ s = 25 ∨ s = 26 ∨ s = 27 ∨ s = 28 ∨ s = 29 := by omega
  rcases h with rfl | rfl | rfl | rfl | rfl | rfl | rfl | rfl | rfl | rfl | rfl | rfl | rfl | rfl | rfl | rfl | rfl | rfl | rfl | rfl | rfl | rfl | rfl | rfl | rfl | rfl | rfl | rfl | rfl | rfl <;> rfl
theorem lenB_lim {s : Nat} (h1 : 257 ≤ s) (h2 : s ≤ 285) : 3 ≤ (lenB s).1 ∧ (lenB s).1 + 2 ^ (lenB s).2 ≤ 259 ∧ (lenB s).2 ≤ 5 := by
  have h : s = 257 ∨ s = 258 ∨ s = 259 ∨ s = 260 ∨ s = 261 ∨ s = 262 ∨ s = 263 ∨ s = 264 ∨ s = 265 ∨ s = 266 ∨ s = 267 ∨ s = 268 ∨ s = 269 ∨ s = 270 ∨ s = 271 ∨ s = 272 ∨ s = 273 ∨ s = 274 ∨ s = 275 ∨ s = 276 ∨ s = 277 ∨ s = 278 ∨ s = 279 ∨ s = 280 ∨ s = 281 ∨ s = 282 ∨ s = 283 ∨ s = 284 ∨ s = 285 := by omega
  rcases h with rfl | rfl | rfl | rfl | rfl | rfl | rfl | rfl | rfl | rfl | rfl | rfl | rfl | rfl | rfl | rfl | rfl | rfl | rfl | rfl | rfl | rfl | rfl | rfl | rfl | rfl | rfl | rfl | rfl <;> decide
theorem bkB_lim {s : Nat} (h2 : s < 30) : 1 ≤ (bkB s).1 ∧ (bkB s).1 + 2 ^ (bkB s).2 ≤ 32769 ∧ (bkB s).2 ≤ 13 := by
  have h : s = 0 ∨ s = 1 ∨ s = 2 ∨ s = 3 ∨ s = 4 ∨ s = 5 ∨ s = 6 ∨ s = 7 ∨ s = 8 ∨ s = 9 ∨ s = 10 ∨ s = 11 ∨ s = 12 ∨ s = 13 ∨ s = 14 ∨ s = 15 ∨ s = 16 ∨ s = 17 ∨ s = 18 ∨ s = 19 ∨ s = 20 ∨ s = 21 ∨ s = 22 ∨ s = 23 ∨ s = 24 ∨ s = 25 ∨ s = 26 ∨ s = 27 ∨ s = 28 ∨ s = 29 := by omega
  rcases h with rfl | rfl | rfl | rfl | rfl | rfl | rfl | rfl | rfl | rfl | rfl | rfl | rfl | rfl | rfl | rfl | rfl | rfl | rfl | rfl | rfl | rfl | rfl | rfl | rfl | rfl | rfl | rfl | rfl | rfl <;> decide
theorem look_sign {l : List Int} {n v : Nat} {x : Int} (h : look l n v = some x) : ∃ s : Nat, s < l.length ∧ x = (s : Int) := by
  unfold look at h
  by_cases c : base l n ≤ v ∧ v - base l n < cnt l n
  · rw [if_pos c] at h
    obtain ⟨s, h1, h2, h3, h4⟩ := sgn_get l n l.length (Nat.le_refl _) (v - base l n) (by rw [List.take_length]; exact c.2)
    exact ⟨s, h1, by rw [← h2]; exact (Option.some.inj h).symm⟩
  · rw [if_neg c] at h; cases h
theorem readR_sign (l b : List Int) : ∀ (r n p v : Nat) (s e : Int) (p' : Nat), readR l b r n p v = (some (s, e), p') → (e = 0 ∧ ∃ k : Nat, k < l.length ∧ s = (k : Int)) ∨ (e = 6 ∧ s = 0)
  | 0, n, p, v, s, e, p', h => by cases h
  | r + 1, n, p, v, s, e, p', h => by
    unfold readR at h
    by_cases c : p + 1 ≤ 8 * b.length
    · rw [if_pos c] at h
      cases hk : look l n (2 * v + bitsAt b p 1) with
      | some x =>
        rw [hk] at h
        dsimp only at h
        injection h with h1 h2
        injection h1 with h1
        injection h1 with h1 h3
        subst h1 h3
        exact .inl ⟨rfl, look_sign hk⟩
      | none =>
        rw [hk] at h
        exact readR_sign l b r (n + 1) (p + 1) _ s e p' h
    · rw [if_neg c] at h
      injection h with h1 h2
      injection h1 with h1
      injection h1 with h1 h3
      exact .inr ⟨h3.symm, h1.symm⟩
theorem readH_sign (l b : List Int) (p : Nat) : (∃ k : Nat, k < l.length ∧ (readH l b p).1 = (k : Int) ∧ (readH l b p).2.1 = 0) ∨ (readH l b p).2.1 = 4 ∨ (readH l b p).2.1 = 6 := by
  unfold readH
  generalize hq : readR l b 15 1 p 0 = q
  obtain ⟨o, p'⟩ := q
  cases o with
  | none => exact .inr (.inl rfl)
  | some o =>
    obtain ⟨s, e⟩ := o
    rcases readR_sign l b 15 1 p 0 s e p' hq with ⟨h1, k, h2, h3⟩ | ⟨h1, h2⟩
    · exact .inl ⟨k, h2, h3, h1⟩
    · exact .inr (.inr h1)
noncomputable def wordR (l1 l2 b : List Int) (p : Nat) : (Option Tok × Nat) ⊕ Int :=
  if (readH l1 b p).2.1 ≠ 0 then .inr (readH l1 b p).2.1
  else if (readH l1 b p).1 = 256 then .inl (none, (readH l1 b p).2.2)
  else if (readH l1 b p).1 > 285 then .inr 4
  else if (readH l1 b p).1 < 256 then .inl (some ((readH l1 b p).1, 0, 0), (readH l1 b p).2.2)
  else
    if 8 * b.length < (readH l1 b p).2.2 + (lenB (readH l1 b p).1.toNat).2 then .inr 6
    else if (readH l2 b ((readH l1 b p).2.2 + (lenB (readH l1 b p).1.toNat).2)).2.1 ≠ 0 then .inr (readH l2 b ((readH l1 b p).2.2 + (lenB (readH l1 b p).1.toNat).2)).2.1
    else if (readH l2 b ((readH l1 b p).2.2 + (lenB (readH l1 b p).1.toNat).2)).1 ≥ 30 then .inr 4
    else if 8 * b.length < (readH l2 b ((readH l1 b p).2.2 + (lenB (readH l1 b p).1.toNat).2)).2.2 + (bkB (readH l2 b ((readH l1 b p).2.2 + (lenB (readH l1 b p).1.toNat).2)).1.toNat).2 then .inr 6
    else .inl (some (0, (((lenB (readH l1 b p).1.toNat).1 + bitsAt b (readH l1 b p).2.2 (lenB (readH l1 b p).1.toNat).2 : Nat) : Int),
      (((bkB (readH l2 b ((readH l1 b p).2.2 + (lenB (readH l1 b p).1.toNat).2)).1.toNat).1 + bitsAt b (readH l2 b ((readH l1 b p).2.2 + (lenB (readH l1 b p).1.toNat).2)).2.2 (bkB (readH l2 b ((readH l1 b p).2.2 + (lenB (readH l1 b p).1.toNat).2)).1.toNat).2 : Nat) : Int)),
      (readH l2 b ((readH l1 b p).2.2 + (lenB (readH l1 b p).1.toNat).2)).2.2 + (bkB (readH l2 b ((readH l1 b p).2.2 + (lenB (readH l1 b p).1.toNat).2)).1.toNat).2)
def addR (most : Int) (t : Tok) (n : Nat) (T : List Tok) : (Nat × List Tok) ⊕ Int :=
  if t.2.2 > (n : Int) then .inr 4 else if (n : Int) + max t.2.1 1 > most then .inr 2 else .inl (n + max t.2.1.toNat 1, T ++ [t])
def FU : Nat := 18446744073709551616
noncomputable def wordsR (l1 l2 b : List Int) (most : Int) : Nat → Nat → List Tok → Nat → (Nat × List Tok × Nat) ⊕ Int
  | 0, _, _, _ => .inr 6
  | k + 1, n, T, p => match wordR l1 l2 b p with
    | .inr e => .inr e
    | .inl (none, p') => .inl (n, T, p')
    | .inl (some t, p') => match addR most t n T with
      | .inr e => .inr e
      | .inl (n', T') => wordsR l1 l2 b most k n' T' p'
def ZW (l1 l2 b : List Int) (most : Int) (r : (Nat × List Tok × Nat) ⊕ Int) (z : go76.D) : Prop :=
  match r with
  | .inl (n, T, p) => z = (0, (n : Int), most, b, ((ra p : Nat) : Int), ((rw' b p : Nat) : Int), ((rm p : Nat) : Int), C l1, l1, codes l1, sgs l1 15, C l2, l2, codes l2, sgs l2 15, T, ()) ∧ p ≤ 8 * b.length ∧ T.length ≤ n ∧ (n : Int) ≤ most
  | .inr e => e ≠ 0 ∧ z.1 = e
theorem wordR_lt {l1 l2 b : List Int} {p : Nat} (hp : p ≤ 8 * b.length) {o : Option Tok} {p' : Nat} (h : wordR l1 l2 b p = .inl (o, p')) : p < p' ∧ p' ≤ 8 * b.length ∧ ∀ t, o = some t → isT t = true := by
  unfold wordR at h
  have h1 := readH_le l1 b hp
  have h2 := readH_lt l1 b p
  have h3 := readH_sign l1 b p
  generalize readH l1 b p = q1 at h h1 h2 h3
  obtain ⟨s, e, p1⟩ := q1
  dsimp only at h h1 h2 h3
  by_cases c1 : e ≠ 0
  · rw [if_pos c1] at h; cases h
  · rw [if_neg c1] at h
    by_cases c2 : s = 256
    · rw [if_pos c2] at h
      injection h with h; injection h with ha hb
      subst ha hb
      exact ⟨by omega, h1.2, fun t ht => by cases ht⟩
    · rw [if_neg c2] at h
      by_cases c3 : s > 285
      · rw [if_pos c3] at h; cases h
      · rw [if_neg c3] at h
        obtain ⟨k, hk1, rfl⟩ : ∃ k : Nat, k < l1.length ∧ s = (k : Int) := by
          rcases h3 with ⟨k, a1, a2, _⟩ | h3 | h3
          · exact ⟨k, a1, a2⟩
          · omega
          · omega
        by_cases c4 : (k : Int) < 256
        · rw [if_pos c4] at h
          injection h with h; injection h with ha hb
          subst ha hb
          refine ⟨by omega, h1.2, fun t ht => ?_⟩
          injection ht with ht
          subst ht
          rw [isT_iff]
          exact .inl ⟨rfl, rfl, by dsimp only; omega, by dsimp only; omega⟩
        · rw [if_neg c4] at h
          rw [Int.toNat_natCast] at h
          obtain ⟨L1, L2, L3⟩ := lenB_lim (s := k) (by omega) (by omega)
          generalize lenB k = lb at h L1 L2 L3
          obtain ⟨lb, lm⟩ := lb
          dsimp only at h L1 L2 L3
          by_cases c5 : 8 * b.length < p1 + lm
          · rw [if_pos c5] at h; cases h
          · rw [if_neg c5] at h
            have g1 := readH_le l2 b (p := p1 + lm) (by omega)
            have g3 := readH_sign l2 b (p1 + lm)
            generalize readH l2 b (p1 + lm) = q2 at h g1 g3
            obtain ⟨d, e2, p2⟩ := q2
            dsimp only at h g1 g3
            by_cases c6 : e2 ≠ 0
            · rw [if_pos c6] at h; cases h
            · rw [if_neg c6] at h
              by_cases c7 : d ≥ 30
              · rw [if_pos c7] at h; cases h
              · rw [if_neg c7] at h
                obtain ⟨j, hj1, rfl⟩ : ∃ k : Nat, k < l2.length ∧ d = (k : Int) := by
                  rcases g3 with ⟨k, a1, a2, _⟩ | g3 | g3
                  · exact ⟨k, a1, a2⟩
                  · omega
                  · omega
                rw [Int.toNat_natCast] at h
                obtain ⟨B1, B2, B3⟩ := bkB_lim (s := j) (by omega)
                generalize bkB j = bb at h B1 B2 B3
                obtain ⟨bb, bm⟩ := bb
                dsimp only at h B1 B2 B3
                by_cases c8 : 8 * b.length < p2 + bm
                · rw [if_pos c8] at h; cases h
                · rw [if_neg c8] at h
                  injection h with h; injection h with ha hb
                  subst ha hb
                  refine ⟨by omega, by omega, fun t ht => ?_⟩
                  injection ht with ht
                  subst ht
                  have x1 := bitsAt_lt b p1 lm
                  have x2 := bitsAt_lt b p2 bm
                  rw [isT_iff]
                  exact .inr ⟨rfl, by dsimp only; omega, by dsimp only; omega, by dsimp only; omega, by dsimp only; omega⟩
theorem wordR_err {l1 l2 b : List Int} {p : Nat} {e : Int} (h : wordR l1 l2 b p = .inr e) : e ≠ 0 := by
  unfold wordR at h
  generalize readH l1 b p = q1 at h
  obtain ⟨s, e1, p1⟩ := q1
  dsimp only at h
  generalize lenB s.toNat = lb at h
  obtain ⟨lb, lm⟩ := lb
  dsimp only at h
  generalize readH l2 b (p1 + lm) = q2 at h
  obtain ⟨d, e2, p2⟩ := q2
  dsimp only at h
  by_cases c1 : e1 ≠ 0
  · rw [if_pos c1] at h; injection h with h; subst h; exact c1
  · rw [if_neg c1] at h
    by_cases c2 : s = 256
    · rw [if_pos c2] at h; cases h
    · rw [if_neg c2] at h
      by_cases c3 : s > 285
      · rw [if_pos c3] at h; injection h with h; omega
      · rw [if_neg c3] at h
        by_cases c4 : s < 256
        · rw [if_pos c4] at h; cases h
        · rw [if_neg c4] at h
          by_cases c5 : 8 * b.length < p1 + lm
          · rw [if_pos c5] at h; injection h with h; omega
          · rw [if_neg c5] at h
            by_cases c6 : e2 ≠ 0
            · rw [if_pos c6] at h; injection h with h; subst h; exact c6
            · rw [if_neg c6] at h
              by_cases c7 : d ≥ 30
              · rw [if_pos c7] at h; injection h with h; omega
              · rw [if_neg c7] at h
                by_cases c8 : 8 * b.length < p2 + (bkB d.toNat).2
                · rw [if_pos c8] at h; injection h with h; omega
                · rw [if_neg c8] at h; cases h
theorem addR_inl {most : Int} {t : Tok} {n : Nat} {T : List Tok} {n' : Nat} {T' : List Tok} (h : addR most t n T = .inl (n', T')) : t.2.2 ≤ (n : Int) ∧ (n : Int) + max t.2.1 1 ≤ most ∧ n' = n + max t.2.1.toNat 1 ∧ T' = T ++ [t] := by
  unfold addR at h
  by_cases c1 : t.2.2 > (n : Int)
  · rw [if_pos c1] at h; cases h
  · rw [if_neg c1] at h
    by_cases c2 : (n : Int) + max t.2.1 1 > most
    · rw [if_pos c2] at h; cases h
    · rw [if_neg c2] at h
      injection h with h; injection h with h1 h2
      exact ⟨by omega, by omega, h1.symm, h2.symm⟩
theorem addR_inr {most : Int} {t : Tok} {n : Nat} {T : List Tok} {e : Int} (h : addR most t n T = .inr e) : e ≠ 0 := by
  unfold addR at h
  by_cases c1 : t.2.2 > (n : Int)
  · rw [if_pos c1] at h; injection h with h; omega
  · rw [if_neg c1] at h
    by_cases c2 : (n : Int) + max t.2.1 1 > most
    · rw [if_pos c2] at h; injection h with h; omega
    · rw [if_neg c2] at h; cases h
end Go.Ev.Zlib
namespace Go.Ev.Zlib
theorem l76_1_spec {l1 l2 : List Int} (hl1 : l1.length ≤ 320) (hl2 : l2.length ≤ 320) {b : List Int} (hb : IsB b) (hbl : b.length ≤ 100000) {most : Int} (hm : most ≤ 1048576) : ∀ (k n p : Nat) (T : List Tok), 8 * b.length < p + k → p ≤ 8 * b.length → T.length ≤ n → (n : Int) ≤ most →
    ∃ z, loopN g76_1 o76_1 b76_1 k ((n : Int), most, b, ((ra p : Nat) : Int), ((rw' b p : Nat) : Int), ((rm p : Nat) : Int), C l1, l1, codes l1, sgs l1 15, C l2, l2, codes l2, sgs l2 15, T, ()) = some (.inl z) ∧ ZW l1 l2 b most (wordsR l1 l2 b most k n T p) z := by
  intro k
  induction k with
  | zero => intro n p T h1 h2; exfalso; omega
  | succ k ih =>
    intro n p T h1 h2 h3 h4
    rw [loopN_succ]
    generalize hL : loopN g76_1 o76_1 b76_1 k = L at ih ⊢
    unfold b76_1 wordsR wordR
    dsimp only
    rw [if_pos rfl, f86_eqn hl1 hb hbl l1 (codes l1) h2, Option.bind_some]
    dsimp only
    have a1 := readH_le l1 b h2
    have a2 := readH_lt l1 b p
    have a3 := readH_sign l1 b p
    generalize readH l1 b p = q1 at a1 a2 a3 ⊢
    obtain ⟨s, e, p1⟩ := q1
    dsimp only at a1 a2 a3 ⊢
    by_cases c1 : e ≠ 0
    · rw [if_pos (bne_iff_ne.2 c1), if_pos rfl, if_pos rfl, if_pos rfl, if_pos c1]
      exact ⟨_, rfl, c1, rfl⟩
    · rw [if_neg (fun h => c1 (bne_iff_ne.1 h)), if_neg c1]
      by_cases c2 : s = 256
      · rw [if_pos (beq_iff_eq.2 c2), if_pos rfl, if_pos rfl, if_pos rfl, if_pos c2]
        exact ⟨_, rfl, rfl, a1.2, h3, h4⟩
      · rw [if_neg (fun h => c2 (beq_iff_eq.1 h)), if_neg c2]
        by_cases c3 : s > 285
        · rw [if_pos (decide_eq_true c3), if_pos rfl, if_pos rfl, if_pos rfl, if_pos c3]
          exact ⟨_, rfl, by decide, rfl⟩
        · rw [if_neg (fun h => c3 (of_decide_eq_true h)), if_neg c3]
          obtain ⟨j, hj1, rfl⟩ : ∃ k : Nat, k < l1.length ∧ s = (k : Int) := by
            rcases a3 with ⟨k, b1, b2, _⟩ | a3 | a3
            · exact ⟨k, b1, b2⟩
            · omega
            · omega
          by_cases c4 : (j : Int) < 256
          · rw [if_pos (decide_eq_true c4), if_pos rfl, if_pos c4, f75_eqn (j : Int) (len := 0) (by omega) 0 h4 hm b _ _ _ h3]
            unfold addR
            dsimp only
            rw [if_neg (show ¬ ((0 : Int) > (n : Int)) by omega), if_neg (show ¬ ((0 : Int) > (n : Int)) by omega)]
            by_cases c5 : (n : Int) + max 0 1 > most
            · rw [if_pos c5, if_pos c5, Option.bind_some]
              dsimp only
              rw [if_pos (show ((2 : Int) != 0) = true by decide), if_pos rfl, if_pos rfl, if_pos rfl]
              exact ⟨_, rfl, by decide, rfl⟩
            · rw [if_neg c5, if_neg c5, Option.bind_some]
              dsimp only
              rw [if_neg (show ¬ (((0 : Int) != 0) = true) by decide), if_pos rfl, if_pos rfl, if_pos rfl, Option.bind_some, Sum.elim_inl]
              exact ih _ p1 _ (by omega) a1.2 (by rw [List.length_append, List.length_singleton]; omega) (by rw [Int.toNat_zero]; omega)
          · rw [if_neg (fun h => c4 (of_decide_eq_true h)), if_neg c4, f87_eqn (by omega) (by omega), Option.bind_some, Int.toNat_natCast]
            obtain ⟨L1, L2, L3⟩ := lenB_lim (s := j) (by omega) (by omega)
            generalize lenB j = lb at L1 L2 L3 ⊢
            obtain ⟨lb, lm⟩ := lb
            dsimp only at L1 L2 L3 ⊢
            by_cases c5 : 8 * b.length < p1 + lm
            · rw [if_pos c5, f72_more hbl a1.2 (by omega) c5, Option.bind_some]
              dsimp only
              rw [if_pos (show ((6 : Int) != 0) = true by decide), if_pos rfl, if_pos rfl, if_pos rfl]
              exact ⟨_, rfl, by decide, rfl⟩
            · have g0 : p1 + lm ≤ 8 * b.length := by omega
              rw [if_neg c5, f72_eqn hb hbl (by omega) g0, Option.bind_some]
              dsimp only
              rw [if_neg (show ¬ (((0 : Int) != 0) = true) by decide), if_pos rfl, f86_eqn hl2 hb hbl l2 (codes l2) g0, Option.bind_some]
              dsimp only
              have d1 := readH_le l2 b g0
              have d3 := readH_sign l2 b (p1 + lm)
              generalize readH l2 b (p1 + lm) = q2 at d1 d3 ⊢
              obtain ⟨d, e2, p2⟩ := q2
              dsimp only at d1 d3 ⊢
              by_cases c6 : e2 ≠ 0
              · rw [if_pos (bne_iff_ne.2 c6), if_pos rfl, if_pos rfl, if_pos rfl, if_pos c6]
                exact ⟨_, rfl, c6, rfl⟩
              · rw [if_neg (fun h => c6 (bne_iff_ne.1 h)), if_neg c6]
                by_cases c7 : d ≥ 30
                · rw [if_pos (decide_eq_true c7), if_pos rfl, if_pos rfl, if_pos rfl, if_pos c7]
                  exact ⟨_, rfl, by decide, rfl⟩
                · rw [if_neg (fun h => c7 (of_decide_eq_true h)), if_neg c7]
                  obtain ⟨i, hi1, rfl⟩ : ∃ k : Nat, k < l2.length ∧ d = (k : Int) := by
                    rcases d3 with ⟨k, b1, b2, _⟩ | d3 | d3
                    · exact ⟨k, b1, b2⟩
                    · omega
                    · omega
                  rw [f88_eqn (by omega), Option.bind_some, Int.toNat_natCast]
                  obtain ⟨B1, B2, B3⟩ := bkB_lim (s := i) (by omega)
                  generalize bkB i = bb at B1 B2 B3 ⊢
                  obtain ⟨bb, bm⟩ := bb
                  dsimp only at B1 B2 B3 ⊢
                  by_cases c8 : 8 * b.length < p2 + bm
                  · rw [if_pos c8, f72_more hbl d1.2 (by omega) c8, Option.bind_some]
                    dsimp only
                    rw [if_pos (show ((6 : Int) != 0) = true by decide), if_pos rfl, if_pos rfl, if_pos rfl]
                    exact ⟨_, rfl, by decide, rfl⟩
                  · have g1 : p2 + bm ≤ 8 * b.length := by omega
                    have x1 := bitsAt_lt b p1 lm
                    have x2 := bitsAt_lt b p2 bm
                    rw [if_neg c8, f72_eqn hb hbl (by omega) g1, Option.bind_some]
                    generalize bitsAt b p1 lm = y1 at x1 ⊢
                    generalize bitsAt b p2 bm = y2 at x2 ⊢
                    have w1 : IntKind.wrap .i64 ((lb : Int) + (y1 : Int)) = ((lb + y1 : Nat) : Int) := by rw [wrap_i64 (by omega)]; omega
                    have w2 : IntKind.wrap .i64 ((bb : Int) + (y2 : Int)) = ((bb + y2 : Nat) : Int) := by rw [wrap_i64 (by omega)]; omega
                    dsimp only
                    rw [if_neg (show ¬ (((0 : Int) != 0) = true) by decide), if_pos rfl, w1, w2, f75_eqn 0 (len := ((lb + y1 : Nat) : Int)) (by omega) ((bb + y2 : Nat) : Int) h4 hm b _ _ _ h3]
                    unfold addR
                    dsimp only
                    by_cases c9 : ((bb + y2 : Nat) : Int) > (n : Int)
                    · rw [if_pos c9, if_pos c9, Option.bind_some]
                      dsimp only
                      rw [if_pos (show ((4 : Int) != 0) = true by decide), if_pos rfl, if_pos rfl, if_pos rfl]
                      exact ⟨_, rfl, by decide, rfl⟩
                    · rw [if_neg c9, if_neg c9]
                      by_cases c10 : (n : Int) + max ((lb + y1 : Nat) : Int) 1 > most
                      · rw [if_pos c10, if_pos c10, Option.bind_some]
                        dsimp only
                        rw [if_pos (show ((2 : Int) != 0) = true by decide), if_pos rfl, if_pos rfl, if_pos rfl]
                        exact ⟨_, rfl, by decide, rfl⟩
                      · rw [if_neg c10, if_neg c10, Option.bind_some]
                        dsimp only
                        rw [if_neg (show ¬ (((0 : Int) != 0) = true) by decide), if_pos rfl, if_pos rfl, if_pos rfl, Option.bind_some, Sum.elim_inl]
                        exact ih _ (p2 + bm) _ (by omega) g1 (by rw [List.length_append, List.length_singleton]; omega) (by rw [Int.toNat_natCast]; omega)
theorem f76_eqn {l1 l2 : List Int} (hl1 : l1.length ≤ 320) (hl2 : l2.length ≤ 320) {b : List Int} (hb : IsB b) (hbl : b.length ≤ 100000) {most : Int} (hm : most ≤ 1048576) {n p : Nat} {T : List Tok} (hp : p ≤ 8 * b.length) (hT : T.length ≤ n) (hn : (n : Int) ≤ most) :
    ∃ z, f76 ((n : Int), most, b, ((ra p : Nat) : Int), ((rw' b p : Nat) : Int), ((rm p : Nat) : Int), T, C l1, l1, codes l1, sgs l1 15, C l2, l2, codes l2, sgs l2 15, ()) = some z ∧ ZW l1 l2 b most (wordsR l1 l2 b most FU n T p) z := by
  obtain ⟨z, h1, h2⟩ := l76_1_spec hl1 hl2 hb hbl hm FU n p T (by unfold FU; omega) hp hT hn
  refine ⟨z, ?_, h2⟩
  have h' : loopN g76_1 o76_1 b76_1 18446744073709551616 ((n : Int), most, b, ((ra p : Nat) : Int), ((rw' b p : Nat) : Int), ((rm p : Nat) : Int), C l1, l1, codes l1, sgs l1 15, C l2, l2, codes l2, sgs l2 15, T, ()) = some (.inl z) := h1
  unfold f76
  dsimp only
  rw [if_pos rfl, if_pos rfl, if_pos rfl, show l76_1 = loopN g76_1 o76_1 b76_1 18446744073709551616 from rfl, h', Option.bind_some, Sum.elim_inl, if_pos rfl, if_pos rfl, if_pos rfl]
def repB (s : Nat) : Nat × Nat := if s = 16 then (2, 3) else if s = 17 then (3, 3) else (7, 11)
theorem f89_eqn (s : Nat) : f89 ((s : Int), ()) = some (((repB s).1 : Int), ((repB s).2 : Int), decide (s = 16), ()) := by
  unfold f89 repB
  dsimp only
  by_cases c1 : s = 16
  · subst c1; rfl
  · rw [if_neg (show ¬ (((s : Int) == 16) = true) from fun h => c1 (by have := beq_iff_eq.1 h; omega)), if_neg c1, decide_eq_false c1]
    by_cases c2 : s = 17
    · subst c2; rfl
    · rw [if_neg (show ¬ (((s : Int) == 17) = true) from fun h => c2 (by have := beq_iff_eq.1 h; omega)), if_neg c2]
      rfl
theorem repB_lim (s : Nat) : 3 ≤ (repB s).2 ∧ (repB s).2 ≤ 11 ∧ (repB s).1 ≤ 7 := by
  unfold repB
  by_cases c1 : s = 16
  · rw [if_pos c1]; exact ⟨by decide, by decide, by decide⟩
  · rw [if_neg c1]
    by_cases c2 : s = 17
    · rw [if_pos c2]; exact ⟨by decide, by decide, by decide⟩
    · rw [if_neg c2]; exact ⟨by decide, by decide, by decide⟩
noncomputable def lenR (few b : List Int) (all : Nat) (o : List Int) (p : Nat) : (List Int × Nat) ⊕ Int :=
  if (readH few b p).2.1 ≠ 0 then .inr (readH few b p).2.1
  else if (readH few b p).1 < 16 then .inl (o ++ [(readH few b p).1], (readH few b p).2.2)
  else if (readH few b p).1 = 16 ∧ o.length = 0 then .inr 4
  else if 8 * b.length < (readH few b p).2.2 + (repB (readH few b p).1.toNat).1 then .inr 6
  else if all < o.length + (repB (readH few b p).1.toNat).2 + bitsAt b (readH few b p).2.2 (repB (readH few b p).1.toNat).1 then .inr 4
  else .inl (o ++ List.replicate ((repB (readH few b p).1.toNat).2 + bitsAt b (readH few b p).2.2 (repB (readH few b p).1.toNat).1) (if (readH few b p).1 = 16 then o.getD (o.length - 1) 0 else 0), (readH few b p).2.2 + (repB (readH few b p).1.toNat).1)
noncomputable def lensR (few b : List Int) (all : Nat) : Nat → List Int → Nat → (List Int × Nat) ⊕ Int
  | 0, _, _ => .inr 6
  | k + 1, o, p => if all ≤ o.length then .inl (o, p) else match lenR few b all o p with
    | .inr e => .inr e
    | .inl (o', p') => lensR few b all k o' p'
end Go.Ev.Zlib
namespace Go.Ev.Zlib
theorem wrap_u64 {n : Nat} (h : n < 18446744073709551616) : IntKind.wrap .u64 (n : Int) = (n : Int) := by
  have e : IntKind.wrap .u64 (n : Int) = (n : Int) % 18446744073709551616 := rfl
  rw [e]; omega
theorem f64_one {n : Nat} (hn : n < 65536) : f64 (1, (n : Int), ()) = some (0, (n : Int), ()) := by
  have e1 : Int.fdiv 1 4294967296 = 0 := by decide
  have e2 : Int.fdiv (n : Int) 4294967296 = 0 := by rw [Int.fdiv_eq_ediv_of_nonneg _ (by omega)]; omega
  have e3 : (BitVec.ofInt 64 1 &&& BitVec.ofInt 64 4294967295).toNat = 1 := by decide
  have e4 : (BitVec.ofInt 64 (n : Int) &&& BitVec.ofInt 64 4294967295).toNat = n := by
    rw [show (4294967295 : Int) = ((2 ^ 32 - 1 : Nat) : Int) from rfl, and64 (by omega) (by omega), Nat.and_two_pow_sub_one_eq_mod]; omega
  have e5 : (BitVec.ofInt 64 0 &&& BitVec.ofInt 64 4294967295).toNat = 0 := by decide
  have w0 : IntKind.wrap .u64 (0 : Int) = 0 := rfl
  have w1 : IntKind.wrap .u64 ((1 : Nat) : Int) = 1 := rfl
  have wn : IntKind.wrap .u64 (n : Int) = (n : Int) := wrap_u64 (by omega)
  have z0 : ((0 : Nat) : Int) = 0 := rfl
  unfold f64 f84
  dsimp only
  rw [e1, e2, e3, e4]
  simp only [w1, wn, Int.zero_mul, Int.mul_zero, Int.one_mul, Int.add_zero, w0, e2, e5, z0, Option.bind_some, show Int.fdiv 0 4294967296 = 0 from by decide]
theorem l34_1_spec (x : Int) {n : Nat} (hn : n ≤ 1000) : ∀ (k c : Nat), n < c + k → 1 ≤ c → c ≤ n →
    loopN g34_1 o34_1 b34_1 k ((c : Int), List.replicate c x ++ List.replicate (n - c) 0, ()) = some (.inl (List.replicate n x, ())) := by
  intro k
  induction k with
  | zero => intro c h1 h2 h3; omega
  | succ k ih =>
    intro c h1 h2 h3
    rw [loopN_succ]
    generalize hL : loopN g34_1 o34_1 b34_1 k = L at ih ⊢
    unfold b34_1
    dsimp only
    have hlen : (List.replicate c x ++ List.replicate (n - c) (0 : Int)).length = n := by rw [List.length_append, List.length_replicate, List.length_replicate]; omega
    have ht : List.take (Int.toNat (c : Int) - 0) (List.drop 0 (List.replicate c x ++ List.replicate (n - c) (0 : Int))) = List.replicate c x := by
      rw [List.drop_zero, Int.toNat_natCast, Nat.sub_zero, List.take_left' (List.length_replicate ..)]
    have ht' : List.take (0 + Int.toNat (c : Int)) (List.replicate c x ++ List.replicate (n - c) (0 : Int)) = List.replicate c x := by
      rw [Int.toNat_natCast, Nat.zero_add, List.take_left' (List.length_replicate ..)]
    rw [ht, ht', hlen, List.length_replicate, Int.toNat_natCast]
    rcases Nat.lt_or_ge c n with h | h
    · have hd : List.drop (0 + c + min c (n - c)) (List.replicate c x ++ List.replicate (n - c) (0 : Int)) = List.replicate (n - (c + min c (n - c))) 0 := by
        rw [List.drop_append, List.length_replicate, List.drop_eq_nil_of_le (by rw [List.length_replicate]; omega), List.nil_append, List.drop_replicate]
        congr 1; omega
      have hm : List.take (min c (n - c)) (List.replicate c x) = List.replicate (min c (n - c)) x := by
        rw [List.take_replicate]; congr 1; omega
      rw [hd, hm, ← List.append_assoc, List.replicate_append_replicate]
      rw [if_pos (by rw [decide_eq_true_eq]; omega), if_pos (by omega), if_pos (by omega), if_pos (by omega), if_pos (by omega), if_neg (by omega), if_pos (by rw [List.length_append, List.length_replicate, List.length_replicate]; omega),
        show IntKind.wrap .i64 ((c : Int) + ((min c (n - c) : Nat) : Int)) = ((c + min c (n - c) : Nat) : Int) by rw [wrap_i64 (by omega)]; omega, Option.bind_some, Sum.elim_inl]
      exact ih (c + min c (n - c)) (by omega) (by omega) (by omega)
    · have e : c = n := by omega
      subst e
      rw [if_neg (by rw [decide_eq_true_eq]; omega), if_pos rfl, Nat.sub_self, List.replicate_zero, List.append_nil]
      rfl
theorem f34_eqn (x : Int) {n : Nat} (h1 : 1 ≤ n) (hn : n ≤ 1000) : f34 ([x], (n : Int), ()) = some (List.replicate n x, ()) := by
  unfold f34
  dsimp only
  rw [if_neg (by rw [decide_eq_true_eq]; omega)]
  have e1 : IntKind.wrap .u64 (([x].length : Nat) : Int) = 1 := rfl
  rw [e1, wrap_u64 (by omega), f64_one (by omega), Option.bind_some]
  dsimp only
  have e2 : min ([x].length) (Int.toNat (n : Int)) = 1 := by rw [List.length_singleton, Int.toNat_natCast]; omega
  have e3 : List.take 1 [x] = [x] := rfl
  have h := l34_1_spec x hn 18446744073709551616 1 (by omega) (by omega) (by omega)
  have e4 : List.take 0 (List.replicate n (0 : Int)) ++ ([x] ++ List.drop (0 + 1) (List.replicate n 0)) = List.replicate 1 x ++ List.replicate (n - 1) 0 := by
    rw [List.take_zero, List.nil_append, List.drop_replicate]; rfl
  have h' : loopN g34_1 o34_1 b34_1 18446744073709551616 (1, List.replicate 1 x ++ List.replicate (n - 1) 0, ()) = _ := h
  rw [wrap_i64 (by omega), e2, e3, Int.toNat_natCast, e4]
  rw [if_neg (show ¬ (decide ((0 : Int) > 0) = true) by decide), if_neg (by rw [decide_eq_true_eq]; omega), if_pos (by omega), if_pos (by omega), if_pos (by omega), if_neg (show ¬ (1 = 0) by decide), if_pos (by rw [List.length_append, List.length_replicate, List.length_replicate]; omega),
    show l34_1 = loopN g34_1 o34_1 b34_1 18446744073709551616 from rfl, show (((1 : Nat) : Nat) : Int) = 1 from rfl, h', Option.bind_some, Sum.elim_inl, if_pos rfl]
theorem lenR_inl {few b o : List Int} {all p : Nat} (hp : p ≤ 8 * b.length) (ho : o.length < all) {o' : List Int} {p' : Nat} (h : lenR few b all o p = .inl (o', p')) : p < p' ∧ p' ≤ 8 * b.length ∧ o'.length ≤ all := by
  unfold lenR at h
  have h1 := readH_le few b hp
  have h2 := readH_lt few b p
  generalize readH few b p = q1 at h h1 h2
  obtain ⟨s, e, p1⟩ := q1
  dsimp only at h h1 h2
  by_cases c1 : e ≠ 0
  · rw [if_pos c1] at h; cases h
  · rw [if_neg c1] at h
    by_cases c2 : s < 16
    · rw [if_pos c2] at h
      injection h with h; injection h with ha hb
      subst ha hb
      exact ⟨by omega, h1.2, by rw [List.length_append, List.length_singleton]; omega⟩
    · rw [if_neg c2] at h
      by_cases c3 : s = 16 ∧ o.length = 0
      · rw [if_pos c3] at h; cases h
      · rw [if_neg c3] at h
        by_cases c4 : 8 * b.length < p1 + (repB s.toNat).1
        · rw [if_pos c4] at h; cases h
        · rw [if_neg c4] at h
          by_cases c5 : all < o.length + (repB s.toNat).2 + bitsAt b p1 (repB s.toNat).1
          · rw [if_pos c5] at h; cases h
          · rw [if_neg c5] at h
            injection h with h; injection h with ha hb
            subst ha hb
            exact ⟨by omega, by omega, by rw [List.length_append, List.length_replicate]; omega⟩
theorem lenR_inr {few b o : List Int} {all p : Nat} {e : Int} (h : lenR few b all o p = .inr e) : e ≠ 0 := by
  unfold lenR at h
  generalize readH few b p = q1 at h
  obtain ⟨s, e1, p1⟩ := q1
  dsimp only at h
  by_cases c1 : e1 ≠ 0
  · rw [if_pos c1] at h; injection h with h; subst h; exact c1
  · rw [if_neg c1] at h
    by_cases c2 : s < 16
    · rw [if_pos c2] at h; cases h
    · rw [if_neg c2] at h
      by_cases c3 : s = 16 ∧ o.length = 0
      · rw [if_pos c3] at h; injection h with h; omega
      · rw [if_neg c3] at h
        by_cases c4 : 8 * b.length < p1 + (repB s.toNat).1
        · rw [if_pos c4] at h; injection h with h; omega
        · rw [if_neg c4] at h
          by_cases c5 : all < o.length + (repB s.toNat).2 + bitsAt b p1 (repB s.toNat).1
          · rw [if_pos c5] at h; injection h with h; omega
          · rw [if_neg c5] at h; cases h
theorem lensR_lim {few b : List Int} {all : Nat} : ∀ (k : Nat) (o : List Int) (p : Nat), p ≤ 8 * b.length → o.length ≤ all → ∀ (o' : List Int) (p' : Nat), lensR few b all k o p = .inl (o', p') → p ≤ p' ∧ p' ≤ 8 * b.length ∧ o'.length = all
  | 0, o, p, _, _, o', p', h => by cases h
  | k + 1, o, p, hp, ho, o', p', h => by
    unfold lensR at h
    by_cases c : all ≤ o.length
    · rw [if_pos c] at h
      injection h with h; injection h with ha hb
      subst ha hb
      exact ⟨Nat.le_refl _, hp, by omega⟩
    · rw [if_neg c] at h
      cases hR : lenR few b all o p with
      | inr e => rw [hR] at h; cases h
      | inl z =>
        obtain ⟨o1, p1⟩ := z
        rw [hR] at h
        dsimp only at h
        obtain ⟨g1, g2, g3⟩ := lenR_inl hp (by omega) hR
        obtain ⟨k1, k2, k3⟩ := lensR_lim k o1 p1 g2 g3 o' p' h
        exact ⟨by omega, k2, k3⟩
def ZL (few b : List Int) (n most : Int) (T : List Tok) (r : (List Int × Nat) ⊕ Int) (z : go77.D) : Prop :=
  match r with
  | .inl (o, p) => z = (o, 0, n, most, b, ((ra p : Nat) : Int), ((rw' b p : Nat) : Int), ((rm p : Nat) : Int), T, C few, few, codes few, sgs few 15, ())
  | .inr e => e ≠ 0 ∧ z.2.1 = e
theorem b77_2_eqn (all more least : Int) (ah : Bool) (v n most : Int) (b' : List Int) (a w m : Int) (T : List Tok) (x1 x2 x3 x4 o : List Int) :
    b77_2 (all, more, least, ah, v, n, most, b', a, w, m, T, x1, x2, x3, x4, o, ()) = some (.inl (all, more, least, ah, v, (ah && decide (o.length = 0)), n, most, b', a, w, m, T, x1, x2, x3, x4, o, ())) := by
  unfold b77_2
  dsimp only
  cases ah with
  | true =>
    rw [if_pos rfl, if_pos rfl, if_pos rfl, if_pos rfl, Bool.true_and]
    have e : (((o.length : Nat) : Int) == 0) = decide (o.length = 0) := by
      rw [Bool.eq_iff_iff, beq_iff_eq, decide_eq_true_eq]; omega
    rw [e]
  | false => rw [if_neg (by decide), if_pos rfl, if_pos rfl, if_pos rfl, Bool.false_and]
theorem b77_3_eqn (all more least : Int) (ah : Bool) (v n most : Int) (b' : List Int) (a w m : Int) (T : List Tok) (x1 x2 x3 x4 o : List Int) (h : ah = true → 0 < o.length) (ho : o.length ≤ 1000) :
    b77_3 (all, more, least, ah, v, n, most, b', a, w, m, T, x1, x2, x3, x4, o, ()) = some (.inl (all, more, least, (if ah = true then o.getD (o.length - 1) 0 else v), n, most, b', a, w, m, T, x1, x2, x3, x4, o, ())) := by
  unfold b77_3
  dsimp only
  cases ah with
  | true =>
    have h0 := h rfl
    have e : IntKind.wrap .i64 (((o.length : Nat) : Int) - 1) = ((o.length - 1 : Nat) : Int) := by rw [wrap_i64 (by omega)]; omega
    rw [if_pos rfl, e, if_pos (by omega), if_pos (by omega), if_pos rfl, if_pos rfl, if_pos rfl, Int.toNat_natCast, Nat.zero_add, if_pos rfl]
  | false => rw [if_neg (by decide), if_pos rfl, if_pos rfl, if_pos rfl, if_neg (by decide)]
theorem l77_1_spec {few : List Int} (hf : few.length ≤ 320) {b : List Int} (hb : IsB b) (hbl : b.length ≤ 100000) {all : Nat} (hall : all ≤ 400) (n most : Int) (T : List Tok) : ∀ (k p : Nat) (o : List Int), 8 * b.length < p + k → p ≤ 8 * b.length → o.length ≤ all →
    (match lensR few b all k o p with
    | .inl (o', p') => loopN g77_1 o77_1 b77_1 k ((all : Int), n, most, b, ((ra p : Nat) : Int), ((rw' b p : Nat) : Int), ((rm p : Nat) : Int), T, C few, few, codes few, sgs few 15, o, ()) = some (.inl (n, most, b, ((ra p' : Nat) : Int), ((rw' b p' : Nat) : Int), ((rm p' : Nat) : Int), T, C few, few, codes few, sgs few 15, o', ()))
    | .inr e => e ≠ 0 ∧ ∃ z, loopN g77_1 o77_1 b77_1 k ((all : Int), n, most, b, ((ra p : Nat) : Int), ((rw' b p : Nat) : Int), ((rm p : Nat) : Int), T, C few, few, codes few, sgs few 15, o, ()) = some (.inr (.inl ([], e, z)))) := by
  intro k
  induction k with
  | zero => intro p o h1 h2; exfalso; omega
  | succ k ih =>
    intro p o h1 h2 h3
    rw [loopN_succ]
    generalize hL : loopN g77_1 o77_1 b77_1 k = L at ih ⊢
    unfold lensR
    by_cases c : all ≤ o.length
    · rw [if_pos c]
      dsimp only
      unfold b77_1
      dsimp only
      rw [if_neg (by rw [decide_eq_true_eq]; omega), if_pos rfl, if_pos rfl, if_pos rfl]
      rfl
    · rw [if_neg c]
      have hnx := fun (o' : List Int) (p' : Nat) => lenR_inl (few := few) (b := b) (o := o) (all := all) h2 (by omega) (o' := o') (p' := p')
      unfold lenR at hnx ⊢
      unfold b77_1
      dsimp only
      rw [if_pos (show decide (((o.length : Nat) : Int) < (all : Int)) = true by rw [decide_eq_true_eq]; omega), if_pos rfl, f86_eqn hf hb hbl few (codes few) h2, Option.bind_some]
      have a1 := readH_le few b h2
      have a3 := readH_sign few b p
      generalize readH few b p = q1 at a1 a3 hnx ⊢
      obtain ⟨s, e, p1⟩ := q1
      dsimp only at a1 a3 hnx ⊢
      by_cases c1 : e ≠ 0
      · rw [if_pos c1, if_pos (bne_iff_ne.2 c1), if_pos rfl, if_pos rfl]
        exact ⟨c1, _, rfl⟩
      · rw [if_neg c1] at hnx
        rw [if_neg c1, if_neg (fun h => c1 (bne_iff_ne.1 h))]
        have e1 : List.take 1 (List.drop 0 (List.set (List.replicate 1 (0 : Int)) 0 s)) = [s] := rfl
        by_cases c2 : s < 16
        · rw [if_pos c2] at hnx
          rw [if_pos c2, if_pos (decide_eq_true c2), e1, full, if_pos (by rw [List.length_singleton]; omega), if_pos rfl, if_pos rfl, if_pos rfl, Option.bind_some, Sum.elim_inl]
          obtain ⟨k1, k2, k3⟩ := hnx _ _ rfl
          exact ih p1 (o ++ [s]) (by omega) k2 k3
        · rw [if_neg c2] at hnx
          obtain ⟨j, hj1, rfl⟩ : ∃ k : Nat, k < few.length ∧ s = (k : Int) := by
            rcases a3 with ⟨k, b1, b2, _⟩ | a3 | a3
            · exact ⟨k, b1, b2⟩
            · omega
            · omega
          rw [if_neg c2, if_neg (fun h => c2 (of_decide_eq_true h)), f89_eqn, Option.bind_some]
          rw [Int.toNat_natCast] at hnx ⊢
          obtain ⟨r1, r2, r3⟩ := repB_lim j
          generalize repB j = rp at r1 r2 r3 hnx ⊢
          obtain ⟨more, least⟩ := rp
          dsimp only at r1 r2 r3 hnx ⊢
          rw [if_pos rfl, if_pos rfl, if_pos rfl, b77_2_eqn, Option.bind_some, Sum.elim_inl]
          dsimp only
          by_cases c3 : (j : Int) = 16 ∧ o.length = 0
          · have c3' : (decide (j = 16) && decide (o.length = 0)) = true := by rw [decide_eq_true (by omega), decide_eq_true c3.2]; rfl
            rw [if_pos c3, c3', if_pos rfl, if_pos rfl, if_pos rfl]
            exact ⟨by decide, _, rfl⟩
          · have c3' : (decide (j = 16) && decide (o.length = 0)) = false := by
              by_cases e1 : j = 16
              · rw [decide_eq_false (fun h => c3 ⟨by omega, h⟩), Bool.and_false]
              · rw [decide_eq_false e1, Bool.false_and]
            rw [if_neg c3] at hnx
            rw [if_neg c3, c3', if_neg (show ¬ (false = true) by decide), if_pos rfl, if_pos rfl, if_pos rfl, b77_3_eqn _ _ _ _ _ _ _ _ _ _ _ _ _ _ _ _ _ (fun h => by have := of_decide_eq_true h; omega) (by omega), Option.bind_some, Sum.elim_inl]
            have ew : (if (decide (j = 16)) = true then o.getD (o.length - 1) 0 else 0) = (if (j : Int) = 16 then o.getD (o.length - 1) 0 else 0) := by
              by_cases e1 : j = 16
              · rw [if_pos (decide_eq_true e1), if_pos (by omega)]
              · rw [if_neg (fun h => e1 (of_decide_eq_true h)), if_neg (by omega)]
            rw [ew]
            generalize (if (j : Int) = 16 then o.getD (o.length - 1) 0 else 0) = wv at hnx ⊢
            dsimp only
            by_cases c4 : 8 * b.length < p1 + more
            · rw [if_pos c4, f72_more hbl a1.2 (by omega) c4, Option.bind_some]
              dsimp only
              rw [if_pos (show ((6 : Int) != 0) = true by decide), if_pos rfl, if_pos rfl]
              exact ⟨by decide, _, rfl⟩
            · have g0 : p1 + more ≤ 8 * b.length := by omega
              rw [if_neg c4] at hnx
              rw [if_neg c4, f72_eqn hb hbl (by omega) g0, Option.bind_some]
              dsimp only
              have x1 := bitsAt_lt b p1 more
              have x2 : (2 : Nat) ^ more ≤ 2 ^ 7 := Nat.pow_le_pow_right (by omega) r3
              have x3 : (2 : Nat) ^ 7 = 128 := rfl
              generalize bitsAt b p1 more = y1 at x1 hnx ⊢
              have w1 : IntKind.wrap .i64 (IntKind.wrap .i64 (((o.length : Nat) : Int) + (least : Int)) + (y1 : Int)) = ((o.length + least + y1 : Nat) : Int) := by
                rw [wrap_i64 (n := ((o.length : Nat) : Int) + (least : Int)) (by omega), wrap_i64 (by omega)]; omega
              have w2 : IntKind.wrap .i64 ((least : Int) + (y1 : Int)) = ((least + y1 : Nat) : Int) := by rw [wrap_i64 (by omega)]; omega
              rw [if_neg (show ¬ (((0 : Int) != 0) = true) by decide), w1, w2]
              by_cases c5 : all < o.length + least + y1
              · rw [if_pos c5, if_pos (show decide (((o.length + least + y1 : Nat) : Int) > (all : Int)) = true by rw [decide_eq_true_eq]; omega), if_pos rfl, if_pos rfl]
                exact ⟨by decide, _, rfl⟩
              · have e2 : List.take 1 (List.drop 0 (List.set (List.replicate 1 (0 : Int)) 0 wv)) = [wv] := rfl
                rw [if_neg c5] at hnx
                rw [if_neg c5, if_neg (show ¬ (decide (((o.length + least + y1 : Nat) : Int) > (all : Int)) = true) by rw [decide_eq_true_eq]; omega), e2, f34_eqn wv (by omega) (by omega), Option.bind_some]
                dsimp only
                have e3 : List.take (List.replicate (least + y1) wv).length (List.drop 0 (List.replicate (least + y1) wv)) = List.replicate (least + y1) wv := full _
                rw [full o, e3, if_pos (by rw [List.length_replicate]; omega), if_pos rfl, if_pos rfl, if_pos rfl, Option.bind_some, Sum.elim_inl]
                obtain ⟨k1, k2, k3⟩ := hnx _ _ rfl
                exact ih (p1 + more) _ (by omega) k2 k3
theorem f77_eqn {few : List Int} (hf : few.length ≤ 320) {b : List Int} (hb : IsB b) (hbl : b.length ≤ 100000) {all : Nat} (hall : all ≤ 400) (n most : Int) (T : List Tok) {p : Nat} (hp : p ≤ 8 * b.length) :
    ∃ z, f77 ((all : Int), n, most, b, ((ra p : Nat) : Int), ((rw' b p : Nat) : Int), ((rm p : Nat) : Int), T, C few, few, codes few, sgs few 15, ()) = some z ∧ ZL few b n most T (lensR few b all FU [] p) z := by
  have h := l77_1_spec hf hb hbl hall n most T FU p [] (by unfold FU; omega) hp (Nat.zero_le _)
  unfold f77
  dsimp only
  rw [if_pos rfl, if_pos rfl, show l77_1 = loopN g77_1 o77_1 b77_1 FU from rfl]
  generalize lensR few b all FU [] p = r at h ⊢
  cases r with
  | inl r =>
    obtain ⟨o, p'⟩ := r
    dsimp only at h
    rw [h, Option.bind_some, Sum.elim_inl]
    dsimp only
    rw [if_pos rfl, if_pos rfl, full]
    exact ⟨_, rfl, rfl⟩
  | inr e =>
    obtain ⟨h1, z, h2⟩ := h
    rw [h2, Option.bind_some, Sum.elim_inr, Sum.elim_inl]
    dsimp only
    rw [if_pos rfl, if_pos rfl]
    exact ⟨_, rfl, h1, rfl⟩
end Go.Ev.Zlib
namespace Go.Ev.Zlib
def ord19 : List Int := [16, 17, 18, 0, 8, 7, 9, 6, 10, 5, 11, 4, 12, 3, 13, 2, 14, 1, 15]
def fewR (b : List Int) : List Int → List Int → Nat → (List Int × Nat) ⊕ Int
  | [], few, p => .inl (few, p)
  | a :: l, few, p => if 8 * b.length < p + 3 then .inr 6 else fewR b l (few.set a.toNat ((bitsAt b p 3 : Nat) : Int)) (p + 3)
noncomputable def tabsR (b : List Int) (most : Int) (n : Nat) (T : List Tok) (s : Nat) (l : List Int) (p : Nat) : (Nat × List Tok × Nat) ⊕ Int :=
  if l.getD 256 0 = 0 then .inr 4
  else if errM (l.take s) ≠ 0 then .inr (errM (l.take s))
  else if errM (l.drop s) ≠ 0 then .inr (errM (l.drop s))
  else wordsR (l.take s) (l.drop s) b most FU n T p
noncomputable def ownR (b : List Int) (most : Int) (n : Nat) (T : List Tok) (p : Nat) : (Nat × List Tok × Nat) ⊕ Int :=
  if 8 * b.length < p + 14 then .inr 6
  else if 29 < bitsAt b p 5 ∨ 29 < bitsAt b (p + 5) 5 then .inr 4
  else match fewR b (ord19.take (bitsAt b (p + 10) 4 + 4)) (List.replicate 19 0) (p + 14) with
    | .inr e => .inr e
    | .inl (few, p1) => if errM few ≠ 0 then .inr (errM few) else match lensR few b (bitsAt b p 5 + 257 + (bitsAt b (p + 5) 5 + 1)) FU [] p1 with
      | .inr e => .inr e
      | .inl (l, p2) => tabsR b most n T (bitsAt b p 5 + 257) l p2
def fixL : List Int := List.replicate 144 8 ++ List.replicate 112 9 ++ List.replicate 24 7 ++ List.replicate 8 8
def fixD : List Int := List.replicate 32 5
noncomputable def kindR (b : List Int) (most : Int) (kind n : Nat) (T : List Tok) (p : Nat) : (Nat × List Tok × Nat) ⊕ Int :=
  if kind = 0 then storedR b most n T p
  else if kind = 1 then wordsR fixL fixD b most FU n T p
  else if kind = 2 then ownR b most n T p
  else .inr 4
noncomputable def blocksR (b : List Int) (most : Int) : Nat → Nat → List Tok → Nat → (Nat × List Tok × Nat) ⊕ Int
  | 0, _, _, _ => .inr 6
  | k + 1, n, T, p => if 8 * b.length < p + 3 then .inr 6 else match kindR b most (bitsAt b (p + 1) 2) n T (p + 3) with
    | .inr e => .inr e
    | .inl (n', T', p') => if bitsAt b p 1 = 1 then .inl (n', T', p') else blocksR b most k n' T' p'
noncomputable def tokR (b : List Int) (most : Int) : List Tok × Int × Int × Unit :=
  if most < 0 ∨ 1048576 < most then ([], 0, 1, ()) else match blocksR b most FU 0 [] 0 with
    | .inr e => ([], 0, e, ())
    | .inl (_, T, p) => (T, (((p + 7) / 8 : Nat) : Int), 0, ())
theorem exp_cons (most : Int) (t : Tok) (l : List Tok) (out : List Int) : exp most (t :: l) out = if t.2.2 > ((out.length : Nat) : Int) then .inr 4 else if ((out.length : Nat) : Int) + max t.2.1 1 > most then .inr 2 else
      exp most l (cpy t.2.2.toNat t.2.1.toNat (if t.2.1 = 0 then out ++ [t.1] else out)) := rfl
theorem exp_append (most : Int) : ∀ (A B : List Tok) (out : List Int), exp most (A ++ B) out = match exp most A out with | .inl o => exp most B o | .inr e => .inr e
  | [], B, out => rfl
  | t :: A, B, out => by
    rw [List.cons_append, exp_cons, exp_cons]
    by_cases c1 : t.2.2 > ((out.length : Nat) : Int)
    · rw [if_pos c1, if_pos c1]
    · rw [if_neg c1, if_neg c1]
      by_cases c2 : ((out.length : Nat) : Int) + max t.2.1 1 > most
      · rw [if_pos c2, if_pos c2]
      · rw [if_neg c2, if_neg c2]
        exact exp_append most A B _
structure Inv (most : Int) (n : Nat) (T : List Tok) : Prop where
  out : ∃ o, exp most T [] = .inl o ∧ o.length = n
  tok : T.all isT = true
  len : T.length ≤ n
  lim : (n : Int) ≤ most
theorem Inv.nil {most : Int} (h : 0 ≤ most) : Inv most 0 [] := ⟨⟨[], rfl, rfl⟩, rfl, Nat.le_refl _, h⟩
theorem Inv.add {most : Int} {n : Nat} {T : List Tok} (h : Inv most n T) {t : Tok} (ht : isT t = true) {n' : Nat} {T' : List Tok} (ha : addR most t n T = .inl (n', T')) : Inv most n' T' := by
  obtain ⟨h1, h2, h3, h4⟩ := addR_inl ha
  obtain ⟨o, ho, hn⟩ := h.out
  subst h4
  refine ⟨⟨cpy t.2.2.toNat t.2.1.toNat (if t.2.1 = 0 then o ++ [t.1] else o), ?_, ?_⟩, ?_, ?_, ?_⟩
  · rw [exp_append, ho]
    dsimp only
    unfold exp
    rw [if_neg (by omega), if_neg (by omega)]
    rfl
  · rw [length_cpy, h3]
    rw [isT_iff] at ht
    by_cases c : t.2.1 = 0
    · rw [if_pos c, List.length_append, List.length_singleton, hn, c]
      rfl
    · rw [if_neg c, hn]; omega
  · rw [List.all_append, h.tok, Bool.true_and, List.all_cons, ht]
    rfl
  · rw [List.length_append, List.length_singleton, h3]
    have := h.len
    omega
  · rw [h3]; omega
theorem Inv.lits {most : Int} {n : Nat} {T : List Tok} (h : Inv most n T) {l : List Int} (hl : IsB l) (hm : ((n + l.length : Nat) : Int) ≤ most) : Inv most (n + l.length) (T ++ lits l) := by
  obtain ⟨o, ho, hn⟩ := h.out
  have hll : (Zlib.lits l).length = l.length := by unfold Zlib.lits; rw [List.length_map]
  refine ⟨⟨o ++ l, ?_, ?_⟩, ?_, ?_, hm⟩
  · rw [exp_append, ho]
    exact exp_lits most l o (by rw [hn]; exact hm)
  · rw [List.length_append, hn]
  · rw [List.all_append, h.tok, isT_lits hl]; rfl
  · rw [List.length_append, hll]
    have := h.len
    omega
theorem wordsR_inv {l1 l2 b : List Int} {most : Int} : ∀ (k n : Nat) (T : List Tok) (p : Nat), p ≤ 8 * b.length → Inv most n T → ∀ (n' : Nat) (T' : List Tok) (p' : Nat), wordsR l1 l2 b most k n T p = .inl (n', T', p') → p < p' ∧ p' ≤ 8 * b.length ∧ Inv most n' T'
  | 0, _, _, _, _, _, _, _, _, h => by cases h
  | k + 1, n, T, p, hp, hI, n', T', p', h => by
    unfold wordsR at h
    cases hw : wordR l1 l2 b p with
    | inr e => rw [hw] at h; cases h
    | inl z =>
      obtain ⟨o, p1⟩ := z
      obtain ⟨g1, g2, g3⟩ := wordR_lt hp hw
      rw [hw] at h
      cases o with
      | none =>
        injection h with h; injection h with ha h; injection h with hb hc
        subst ha hb hc
        exact ⟨g1, g2, hI⟩
      | some t =>
        dsimp only at h
        cases ha : addR most t n T with
        | inr e => rw [ha] at h; cases h
        | inl z =>
          obtain ⟨n1, T1⟩ := z
          rw [ha] at h
          obtain ⟨k1, k2, k3⟩ := wordsR_inv k n1 T1 p1 g2 (hI.add (g3 t rfl) ha) n' T' p' h
          exact ⟨by omega, k2, k3⟩
theorem wordsR_inr {l1 l2 b : List Int} {most : Int} : ∀ (k n : Nat) (T : List Tok) (p : Nat) (e : Int), wordsR l1 l2 b most k n T p = .inr e → e ≠ 0
  | 0, _, _, _, e, h => by injection h with h; omega
  | k + 1, n, T, p, e, h => by
    unfold wordsR at h
    cases hw : wordR l1 l2 b p with
    | inr e => rw [hw] at h; injection h with h; subst h; exact wordR_err hw
    | inl z =>
      obtain ⟨o, p1⟩ := z
      rw [hw] at h
      cases o with
      | none => cases h
      | some t =>
        dsimp only at h
        cases ha : addR most t n T with
        | inr e => rw [ha] at h; injection h with h; subst h; exact addR_inr ha
        | inl z =>
          obtain ⟨n1, T1⟩ := z
          rw [ha] at h
          exact wordsR_inr k n1 T1 p1 e h
theorem storedR_inv {b : List Int} (hb : IsB b) {most : Int} {n : Nat} {T : List Tok} {p : Nat} (hI : Inv most n T) {n' : Nat} {T' : List Tok} {p' : Nat} (h : storedR b most n T p = .inl (n', T', p')) : p < p' ∧ p' ≤ 8 * b.length ∧ Inv most n' T' := by
  unfold storedR at h
  by_cases c1 : 8 * b.length < 8 * ra p + 32
  · rw [if_pos c1] at h; cases h
  · rw [if_neg c1] at h
    by_cases c2 : bitsAt b (8 * ra p) 16 ^^^ bitsAt b (8 * ra p + 16) 16 ≠ 65535
    · rw [if_pos c2] at h; cases h
    · rw [if_neg c2] at h
      generalize bitsAt b (8 * ra p) 16 = v at h
      by_cases c3 : b.length < ra p + 4 + v
      · rw [if_pos c3] at h; cases h
      · rw [if_neg c3] at h
        by_cases c4 : ((n + v : Nat) : Int) > most
        · rw [if_pos c4] at h; cases h
        · rw [if_neg c4] at h
          injection h with h; injection h with ha h; injection h with hb' hc
          have hl : ((b.drop (ra p + 4)).take v).length = v := by rw [List.length_take, List.length_drop]; omega
          have := hI.lits (l := (b.drop (ra p + 4)).take v) ((hb.drop _).take _) (by rw [hl]; omega)
          rw [hl] at this
          subst ha hb' hc
          exact ⟨by unfold ra; omega, by omega, this⟩
theorem storedR_inr {b : List Int} {most : Int} {n : Nat} {T : List Tok} {p : Nat} {e : Int} (h : storedR b most n T p = .inr e) : e ≠ 0 := by
  unfold storedR at h
  by_cases c1 : 8 * b.length < 8 * ra p + 32
  · rw [if_pos c1] at h; injection h with h; omega
  · rw [if_neg c1] at h
    by_cases c2 : bitsAt b (8 * ra p) 16 ^^^ bitsAt b (8 * ra p + 16) 16 ≠ 65535
    · rw [if_pos c2] at h; injection h with h; omega
    · rw [if_neg c2] at h
      by_cases c3 : b.length < ra p + 4 + bitsAt b (8 * ra p) 16
      · rw [if_pos c3] at h; injection h with h; omega
      · rw [if_neg c3] at h
        by_cases c4 : ((n + bitsAt b (8 * ra p) 16 : Nat) : Int) > most
        · rw [if_pos c4] at h; injection h with h; omega
        · rw [if_neg c4] at h; cases h
theorem fewR_lim {b : List Int} : ∀ (l few : List Int) (p : Nat), p ≤ 8 * b.length → ∀ (few' : List Int) (p' : Nat), fewR b l few p = .inl (few', p') → p ≤ p' ∧ p' ≤ 8 * b.length ∧ few'.length = few.length
  | [], few, p, hp, few', p', h => by
    injection h with h; injection h with ha hb
    subst ha hb
    exact ⟨Nat.le_refl _, hp, rfl⟩
  | a :: l, few, p, hp, few', p', h => by
    unfold fewR at h
    by_cases c : 8 * b.length < p + 3
    · rw [if_pos c] at h; cases h
    · rw [if_neg c] at h
      obtain ⟨h1, h2, h3⟩ := fewR_lim l _ (p + 3) (by omega) few' p' h
      exact ⟨by omega, h2, by rw [h3, List.length_set]⟩
theorem fewR_inr {b : List Int} : ∀ (l few : List Int) (p : Nat) (e : Int), fewR b l few p = .inr e → e = 6
  | [], few, p, e, h => by cases h
  | a :: l, few, p, e, h => by
    unfold fewR at h
    by_cases c : 8 * b.length < p + 3
    · rw [if_pos c] at h; injection h with h; exact h.symm
    · rw [if_neg c] at h; exact fewR_inr l _ (p + 3) e h
theorem lensR_inr {few b : List Int} {all : Nat} : ∀ (k : Nat) (o : List Int) (p : Nat) (e : Int), lensR few b all k o p = .inr e → e ≠ 0
  | 0, _, _, e, h => by injection h with h; omega
  | k + 1, o, p, e, h => by
    unfold lensR at h
    by_cases c : all ≤ o.length
    · rw [if_pos c] at h; cases h
    · rw [if_neg c] at h
      cases hR : lenR few b all o p with
      | inr e => rw [hR] at h; injection h with h; subst h; exact lenR_inr hR
      | inl z =>
        obtain ⟨o1, p1⟩ := z
        rw [hR] at h
        exact lensR_inr k o1 p1 e h
theorem tabsR_inv {b : List Int} {most : Int} {n : Nat} {T : List Tok} {s : Nat} {l : List Int} {p : Nat} (hp : p ≤ 8 * b.length) (hI : Inv most n T) {n' : Nat} {T' : List Tok} {p' : Nat} (h : tabsR b most n T s l p = .inl (n', T', p')) : p < p' ∧ p' ≤ 8 * b.length ∧ Inv most n' T' := by
  unfold tabsR at h
  by_cases c1 : l.getD 256 0 = 0
  · rw [if_pos c1] at h; cases h
  · rw [if_neg c1] at h
    by_cases c2 : errM (l.take s) ≠ 0
    · rw [if_pos c2] at h; cases h
    · rw [if_neg c2] at h
      by_cases c3 : errM (l.drop s) ≠ 0
      · rw [if_pos c3] at h; cases h
      · rw [if_neg c3] at h
        exact wordsR_inv _ n T p hp hI n' T' p' h
theorem tabsR_inr {b : List Int} {most : Int} {n : Nat} {T : List Tok} {s : Nat} {l : List Int} {p : Nat} {e : Int} (h : tabsR b most n T s l p = .inr e) : e ≠ 0 := by
  unfold tabsR at h
  by_cases c1 : l.getD 256 0 = 0
  · rw [if_pos c1] at h; injection h with h; omega
  · rw [if_neg c1] at h
    by_cases c2 : errM (l.take s) ≠ 0
    · rw [if_pos c2] at h; injection h with h; subst h; exact c2
    · rw [if_neg c2] at h
      by_cases c3 : errM (l.drop s) ≠ 0
      · rw [if_pos c3] at h; injection h with h; subst h; exact c3
      · rw [if_neg c3] at h
        exact wordsR_inr _ n T p e h
theorem ownR_inv {b : List Int} {most : Int} {n : Nat} {T : List Tok} {p : Nat} (hI : Inv most n T) {n' : Nat} {T' : List Tok} {p' : Nat} (h : ownR b most n T p = .inl (n', T', p')) : p < p' ∧ p' ≤ 8 * b.length ∧ Inv most n' T' := by
  unfold ownR at h
  by_cases c1 : 8 * b.length < p + 14
  · rw [if_pos c1] at h; cases h
  · rw [if_neg c1] at h
    by_cases c2 : 29 < bitsAt b p 5 ∨ 29 < bitsAt b (p + 5) 5
    · rw [if_pos c2] at h; cases h
    · rw [if_neg c2] at h
      cases hf : fewR b (ord19.take (bitsAt b (p + 10) 4 + 4)) (List.replicate 19 0) (p + 14) with
      | inr e => rw [hf] at h; cases h
      | inl z =>
        obtain ⟨few, p1⟩ := z
        rw [hf] at h
        dsimp only at h
        obtain ⟨f1, f2, f3⟩ := fewR_lim _ _ (p + 14) (by omega) few p1 hf
        by_cases c3 : errM few ≠ 0
        · rw [if_pos c3] at h; cases h
        · rw [if_neg c3] at h
          cases hl : lensR few b (bitsAt b p 5 + 257 + (bitsAt b (p + 5) 5 + 1)) FU [] p1 with
          | inr e => rw [hl] at h; cases h
          | inl z =>
            obtain ⟨l, p2⟩ := z
            rw [hl] at h
            dsimp only at h
            obtain ⟨g1, g2, g3⟩ := lensR_lim _ _ _ f2 (Nat.zero_le _) l p2 hl
            obtain ⟨k1, k2, k3⟩ := tabsR_inv g2 hI h
            exact ⟨by omega, k2, k3⟩
theorem ownR_inr {b : List Int} {most : Int} {n : Nat} {T : List Tok} {p : Nat} {e : Int} (h : ownR b most n T p = .inr e) : e ≠ 0 := by
  unfold ownR at h
  by_cases c1 : 8 * b.length < p + 14
  · rw [if_pos c1] at h; injection h with h; omega
  · rw [if_neg c1] at h
    by_cases c2 : 29 < bitsAt b p 5 ∨ 29 < bitsAt b (p + 5) 5
    · rw [if_pos c2] at h; injection h with h; omega
    · rw [if_neg c2] at h
      cases hf : fewR b (ord19.take (bitsAt b (p + 10) 4 + 4)) (List.replicate 19 0) (p + 14) with
      | inr e => rw [hf] at h; injection h with h; have := fewR_inr _ _ _ _ hf; omega
      | inl z =>
        obtain ⟨few, p1⟩ := z
        rw [hf] at h
        dsimp only at h
        by_cases c3 : errM few ≠ 0
        · rw [if_pos c3] at h; injection h with h; subst h; exact c3
        · rw [if_neg c3] at h
          cases hl : lensR few b (bitsAt b p 5 + 257 + (bitsAt b (p + 5) 5 + 1)) FU [] p1 with
          | inr e => rw [hl] at h; injection h with h; subst h; exact lensR_inr _ _ _ _ hl
          | inl z =>
            obtain ⟨l, p2⟩ := z
            rw [hl] at h
            exact tabsR_inr h
theorem kindR_inv {b : List Int} (hb : IsB b) {most : Int} {kind n : Nat} {T : List Tok} {p : Nat} (hp : p ≤ 8 * b.length) (hI : Inv most n T) {n' : Nat} {T' : List Tok} {p' : Nat} (h : kindR b most kind n T p = .inl (n', T', p')) : p < p' ∧ p' ≤ 8 * b.length ∧ Inv most n' T' := by
  unfold kindR at h
  by_cases c1 : kind = 0
  · rw [if_pos c1] at h; exact storedR_inv hb hI h
  · rw [if_neg c1] at h
    by_cases c2 : kind = 1
    · rw [if_pos c2] at h; exact wordsR_inv _ n T p hp hI n' T' p' h
    · rw [if_neg c2] at h
      by_cases c3 : kind = 2
      · rw [if_pos c3] at h; exact ownR_inv hI h
      · rw [if_neg c3] at h; cases h
theorem kindR_inr {b : List Int} {most : Int} {kind n : Nat} {T : List Tok} {p : Nat} {e : Int} (h : kindR b most kind n T p = .inr e) : e ≠ 0 := by
  unfold kindR at h
  by_cases c1 : kind = 0
  · rw [if_pos c1] at h; exact storedR_inr h
  · rw [if_neg c1] at h
    by_cases c2 : kind = 1
    · rw [if_pos c2] at h; exact wordsR_inr _ n T p e h
    · rw [if_neg c2] at h
      by_cases c3 : kind = 2
      · rw [if_pos c3] at h; exact ownR_inr h
      · rw [if_neg c3] at h; injection h with h; omega
theorem blocksR_inv {b : List Int} (hb : IsB b) {most : Int} : ∀ (k n : Nat) (T : List Tok) (p : Nat), p ≤ 8 * b.length → Inv most n T → ∀ (n' : Nat) (T' : List Tok) (p' : Nat), blocksR b most k n T p = .inl (n', T', p') → p < p' ∧ p' ≤ 8 * b.length ∧ Inv most n' T'
  | 0, _, _, _, _, _, _, _, _, h => by cases h
  | k + 1, n, T, p, hp, hI, n', T', p', h => by
    unfold blocksR at h
    by_cases c1 : 8 * b.length < p + 3
    · rw [if_pos c1] at h; cases h
    · rw [if_neg c1] at h
      cases hk : kindR b most (bitsAt b (p + 1) 2) n T (p + 3) with
      | inr e => rw [hk] at h; cases h
      | inl z =>
        obtain ⟨n1, T1, p1⟩ := z
        rw [hk] at h
        dsimp only at h
        obtain ⟨g1, g2, g3⟩ := kindR_inv hb (by omega) hI hk
        by_cases c2 : bitsAt b p 1 = 1
        · rw [if_pos c2] at h
          injection h with h; injection h with ha h; injection h with hb' hc
          subst ha hb' hc
          exact ⟨by omega, g2, g3⟩
        · rw [if_neg c2] at h
          obtain ⟨k1, k2, k3⟩ := blocksR_inv hb k n1 T1 p1 g2 g3 n' T' p' h
          exact ⟨by omega, k2, k3⟩
theorem blocksR_inr {b : List Int} {most : Int} : ∀ (k n : Nat) (T : List Tok) (p : Nat) (e : Int), blocksR b most k n T p = .inr e → e ≠ 0
  | 0, _, _, _, e, h => by injection h with h; omega
  | k + 1, n, T, p, e, h => by
    unfold blocksR at h
    by_cases c1 : 8 * b.length < p + 3
    · rw [if_pos c1] at h; injection h with h; omega
    · rw [if_neg c1] at h
      cases hk : kindR b most (bitsAt b (p + 1) 2) n T (p + 3) with
      | inr e => rw [hk] at h; injection h with h; subst h; exact kindR_inr hk
      | inl z =>
        obtain ⟨n1, T1, p1⟩ := z
        rw [hk] at h
        dsimp only at h
        by_cases c2 : bitsAt b p 1 = 1
        · rw [if_pos c2] at h; cases h
        · rw [if_neg c2] at h; exact blocksR_inr k n1 T1 p1 e h
end Go.Ev.Zlib
namespace Go.Ev.Zlib
theorem l54_2_spec {ord : List Int} (hord : ∀ a ∈ ord, 0 ≤ a ∧ a < 19) (hol : ord.length ≤ 19) {b : List Int} (hb : IsB b) (hbl : b.length ≤ 100000) (s d n most : Int) (T : List Tok) : ∀ (k i p : Nat) (few : List Int), ord.length < i + k → i ≤ ord.length → p ≤ 8 * b.length → few.length = 19 →
    (match fewR b (ord.drop i) few p with
    | .inl (few', p') => loopN g54_2 o54_2 b54_2 k (s, d, ord, ((ord.length : Nat) : Int), (i : Int), n, most, b, ((ra p : Nat) : Int), ((rw' b p : Nat) : Int), ((rm p : Nat) : Int), few, T, ()) = some (.inl (s, d, n, most, b, ((ra p' : Nat) : Int), ((rw' b p' : Nat) : Int), ((rm p' : Nat) : Int), few', T, ()))
    | .inr e => e ≠ 0 ∧ ∃ z, loopN g54_2 o54_2 b54_2 k (s, d, ord, ((ord.length : Nat) : Int), (i : Int), n, most, b, ((ra p : Nat) : Int), ((rw' b p : Nat) : Int), ((rm p : Nat) : Int), few, T, ()) = some (.inr (.inl (e, z)))) := by
  intro k
  induction k with
  | zero => intro i p few h1 h2; exfalso; omega
  | succ k ih =>
    intro i p few h1 h2 h3 h4
    rw [loopN_succ]
    generalize hL : loopN g54_2 o54_2 b54_2 k = L at ih ⊢
    unfold b54_2
    dsimp only
    rcases Nat.lt_or_ge i ord.length with h | h
    · have hm : ord.getD i 0 ∈ ord := by
        rw [List.getD_eq_getElem?_getD, List.getElem?_eq_getElem h]
        exact List.getElem_mem _
      have ha := hord _ hm
      rw [drop_getD h 0, if_pos (by rw [decide_eq_true_eq]; omega), if_pos (by omega), if_pos (by omega), Int.toNat_natCast]
      generalize ord.getD i 0 = x at ha ⊢
      unfold fewR
      by_cases c : 8 * b.length < p + 3
      · have hf := f72_more (b := b) hbl (p := p) (n := 3) h3 (by omega) c
        have hf' : f72 (3, b, ((ra p : Nat) : Int), ((rw' b p : Nat) : Int), ((rm p : Nat) : Int), ()) = _ := hf
        rw [if_pos c, hf', Option.bind_some]
        dsimp only
        rw [if_pos (show ((6 : Int) != 0) = true by decide), if_pos rfl]
        exact ⟨by decide, _, rfl⟩
      · have hf := f72_eqn (b := b) hb hbl (p := p) (n := 3) (by omega) (by omega)
        have hf' : f72 (3, b, ((ra p : Nat) : Int), ((rw' b p : Nat) : Int), ((rm p : Nat) : Int), ()) = _ := hf
        rw [if_neg c, hf', Option.bind_some]
        dsimp only
        rw [if_neg (show ¬ (((0 : Int) != 0) = true) by decide), if_pos ha.1, if_pos (show x < ((few.length : Nat) : Int) by rw [h4]; exact ha.2), if_pos (by rw [List.length_set]), if_pos rfl, Nat.zero_add, Option.bind_some, Sum.elim_inl,
          show IntKind.wrap .i64 ((i : Int) + 1) = ((i + 1 : Nat) : Int) by rw [wrap_i64 (by omega)]; omega]
        exact ih (i + 1) (p + 3) _ (by omega) (by omega) (by omega) (by rw [List.length_set]; exact h4)
    · rw [List.drop_of_length_le h, if_neg (by rw [decide_eq_true_eq]; omega), if_pos rfl, if_pos rfl]
      rfl
theorem numsR_three (b : List Int) (p : Nat) {x y z : Int} : numsR b [x, y, z] p [] =
    if p + x.toNat + y.toNat + z.toNat ≤ 8 * b.length then (some [((bitsAt b p x.toNat : Nat) : Int), ((bitsAt b (p + x.toNat) y.toNat : Nat) : Int), ((bitsAt b (p + x.toNat + y.toNat) z.toNat : Nat) : Int)], p + x.toNat + y.toNat + z.toNat)
    else (none, if p + x.toNat ≤ 8 * b.length then if p + x.toNat + y.toNat ≤ 8 * b.length then p + x.toNat + y.toNat else p + x.toNat else p) := by
  unfold numsR
  by_cases c1 : p + x.toNat ≤ 8 * b.length
  · rw [if_pos c1, if_pos c1]
    unfold numsR
    by_cases c2 : p + x.toNat + y.toNat ≤ 8 * b.length
    · rw [if_pos c2, if_pos c2]
      unfold numsR
      by_cases c3 : p + x.toNat + y.toNat + z.toNat ≤ 8 * b.length
      · rw [if_pos c3, if_pos c3]
        rfl
      · rw [if_neg c3, if_neg c3]
    · rw [if_neg c2, if_neg c2, if_neg (by omega)]
  · rw [if_neg c1, if_neg c1, if_neg (by omega)]
set_option maxRecDepth 100000 in
theorem f33_fix : f33 () = some (fixL, ()) := by kernel_rfl
set_option maxRecDepth 100000 in
theorem f32_fixL : (match f32 (fixL, ()) with | some (.inr _) => true | _ => false) = true := by kernel_rfl
set_option maxRecDepth 100000 in
theorem f32_fixD : (match f32 (fixD, ()) with | some (.inr _) => true | _ => false) = true := by kernel_rfl
theorem errM_fixL : errM fixL = 0 := by
  have h := f32_fixL
  rw [f32_eqn] at h
  by_cases c : errM fixL = 0
  · exact c
  · rw [if_neg c] at h; cases h
theorem errM_fixD : errM fixD = 0 := by
  have h := f32_fixD
  rw [f32_eqn] at h
  by_cases c : errM fixD = 0
  · exact c
  · rw [if_neg c] at h; cases h
theorem errM_len {l : List Int} (h : errM l = 0) : l.length ≤ 320 := by
  unfold errM at h
  by_cases c : err l = 0
  · exact (err_ok c).1
  · rw [if_neg c] at h; exact absurd h c
theorem ends_of_ZW {l1 l2 b : List Int} {most : Int} {r : (Nat × List Tok × Nat) ⊕ Int} {z : go76.D} (h : ZW l1 l2 b most r z) :
    Ends b most r (some (z.1, z.2.1, z.2.2.1, z.2.2.2.1, z.2.2.2.2.1, z.2.2.2.2.2.1, z.2.2.2.2.2.2.1, z.2.2.2.2.2.2.2.2.2.2.2.2.2.2.2.1, ())) := by
  cases r with
  | inl r =>
    obtain ⟨n, T, p⟩ := r
    obtain ⟨h, _⟩ := h
    subst h
    rfl
  | inr e => exact ⟨h.1, _, by rw [h.2]⟩
theorem f53_eqn {b : List Int} (hb : IsB b) (hbl : b.length ≤ 100000) {most : Int} (hm : most ≤ 1048576) {n : Nat} {T : List Tok} (hI : Inv most n T) {p : Nat} (hp : p ≤ 8 * b.length) :
    Ends b most (wordsR fixL fixD b most FU n T p) (f53 ((n : Int), most, b, ((ra p : Nat) : Int), ((rw' b p : Nat) : Int), ((rm p : Nat) : Int), T, ())) := by
  obtain ⟨z, h1, h2⟩ := f76_eqn (l1 := fixL) (l2 := fixD) (errM_len errM_fixL) (errM_len errM_fixD) hb hbl hm hp hI.len hI.lim
  have e1 : List.take 1 (List.drop 0 (List.set (List.replicate 1 (0 : Int)) 0 5)) = [5] := rfl
  have h31 : f34 ([5], 32, ()) = some (fixD, ()) := f34_eqn 5 (n := 32) (by decide) (by decide)
  unfold f53
  rw [f33_fix, Option.bind_some]
  dsimp only
  rw [full, f32_eqn, if_pos errM_fixL, Option.bind_some, Sum.elim_inr]
  dsimp only
  rw [if_neg (show ¬ (((0 : Int) != 0) = true) by decide), e1, h31, Option.bind_some]
  dsimp only
  rw [full, f32_eqn, if_pos errM_fixD, Option.bind_some, Sum.elim_inr]
  dsimp only
  rw [if_neg (show ¬ (((0 : Int) != 0) = true) by decide), if_pos rfl, if_pos rfl, if_pos rfl, h1, Option.bind_some, if_pos rfl]
  exact ends_of_ZW h2
end Go.Ev.Zlib
namespace Go.Ev.Zlib
theorem ord_eq (m : Nat) : List.take m (List.drop 0 (List.set (List.set (List.set (List.set (List.set (List.set (List.set (List.set (List.set (List.set (List.set (List.set (List.set (List.set (List.set (List.set (List.set (List.set (List.set (List.replicate 19 (0 : Int)) 0 16) 1 17) 2 18) 3 0) 4 8) 5 7) 6 9) 7 6) 8 10) 9 5) 10 11) 11 4) 12 12) 13 3) 14 13) 15 2) 16 14) 17 1) 18 15)) = ord19.take m := rfl
theorem ord_mem {m : Nat} : ∀ a ∈ ord19.take m, 0 ≤ a ∧ a < 19 := fun a ha => by
  have h : ∀ a ∈ ord19, 0 ≤ a ∧ a < 19 := by decide
  exact h a (List.mem_of_mem_take ha)
set_option maxHeartbeats 4000000 in
theorem f54_eqn {b : List Int} (hb : IsB b) (hbl : b.length ≤ 100000) {most : Int} (hm : most ≤ 1048576) {n : Nat} {T : List Tok} (hI : Inv most n T) {p : Nat} (hp : p ≤ 8 * b.length) :
    Ends b most (ownR b most n T p) (f54 ((n : Int), most, b, ((ra p : Nat) : Int), ((rw' b p : Nat) : Int), ((rm p : Nat) : Int), T, ())) := by
  unfold ownR f54
  dsimp only
  have e1 : List.take 3 (List.drop 0 (List.set (List.set (List.set (List.replicate 3 (0 : Int)) 0 5) 1 5) 2 4)) = [5, 5, 4] := rfl
  rw [if_pos rfl, e1, f51_eqn hb hbl (by intro n hn; rcases List.mem_cons.1 hn with rfl | h; omega; rcases List.mem_cons.1 h with rfl | h; omega; rw [List.mem_singleton] at h; omega) (by decide) _ _ T hp]
  rw [numsR_three b p (x := 5) (y := 5) (z := 4), show Int.toNat 5 = 5 from rfl, show Int.toNat 4 = 4 from rfl, show p + 5 + 5 = p + 10 by omega, show p + 10 + 4 = p + 14 by omega]
  by_cases c1 : 8 * b.length < p + 14
  · rw [if_pos c1, if_neg (show ¬ (p + 14 ≤ 8 * b.length) by omega)]
    dsimp only
    rw [Option.bind_some]
    dsimp only
    rw [if_pos (show ((6 : Int) != 0) = true by decide), if_pos rfl]
    exact ⟨by decide, _, rfl⟩
  · rw [if_neg c1, if_pos (show p + 14 ≤ 8 * b.length by omega)]
    dsimp only
    rw [Option.bind_some]
    dsimp only
    have b0 := bitsAt_lt b p 5
    have b1 := bitsAt_lt b (p + 5) 5
    have b2 := bitsAt_lt b (p + 10) 4
    generalize bitsAt b p 5 = v0 at b0 ⊢
    generalize bitsAt b (p + 5) 5 = v1 at b1 ⊢
    generalize bitsAt b (p + 10) 4 = v2 at b2 ⊢
    have g0 : ([(v0 : Int), (v1 : Int), (v2 : Int)] : List Int).getD 0 0 = (v0 : Int) := rfl
    have g1 : ([(v0 : Int), (v1 : Int), (v2 : Int)] : List Int).getD 1 0 = (v1 : Int) := rfl
    have g2 : ([(v0 : Int), (v1 : Int), (v2 : Int)] : List Int).getD 2 0 = (v2 : Int) := rfl
    have hl3 : ((List.length [(v0 : Int), (v1 : Int), (v2 : Int)] : Nat) : Int) = 3 := rfl
    have w0 : IntKind.wrap .i64 (IntKind.wrap .i64 ((v0 : Int) + 256) + 1) = ((v0 + 257 : Nat) : Int) := by rw [wrap_i64 (n := (v0 : Int) + 256) (by omega), wrap_i64 (by omega)]; omega
    have w1 : IntKind.wrap .i64 ((v1 : Int) + 1) = ((v1 + 1 : Nat) : Int) := by rw [wrap_i64 (by omega)]; omega
    have w2 : IntKind.wrap .i64 ((v2 : Int) + 4) = ((v2 + 4 : Nat) : Int) := by rw [wrap_i64 (by omega)]; omega
    rw [g0, g1, g2, hl3, w0, w1, w2, if_neg (show ¬ (((0 : Int) != 0) = true) by decide), if_pos (show (0 : Int) < 3 by decide), if_pos (show (1 : Int) < 3 by decide)]
    by_cases c2 : 29 < v0 ∨ 29 < v1
    · rw [if_pos c2]
      by_cases c3 : 29 < v0
      · rw [if_pos (show decide (((v0 + 257 : Nat) : Int) > 286) = true by rw [decide_eq_true_eq]; omega), if_pos rfl]
        exact ⟨by decide, _, rfl⟩
      · rw [if_neg (show ¬ (decide (((v0 + 257 : Nat) : Int) > 286) = true) by rw [decide_eq_true_eq]; omega), if_pos (show decide (((v1 + 1 : Nat) : Int) > 30) = true by rw [decide_eq_true_eq]; omega), if_pos rfl]
        exact ⟨by decide, _, rfl⟩
    · rw [if_neg c2, if_neg (show ¬ (decide (((v0 + 257 : Nat) : Int) > 286) = true) by rw [decide_eq_true_eq]; omega), if_neg (show ¬ (decide (((v1 + 1 : Nat) : Int) > 30) = true) by rw [decide_eq_true_eq]; omega),
        if_pos (show (2 : Int) < 3 by decide), if_pos (show (0 : Int) ≤ ((v2 + 4 : Nat) : Int) by omega), if_pos (show ((v2 + 4 : Nat) : Int) ≤ 19 by omega), if_pos rfl, Int.toNat_natCast, Nat.sub_zero, ord_eq]
      have hol : (ord19.take (v2 + 4)).length = v2 + 4 := by
        rw [List.length_take, show ord19.length = 19 from rfl]; omega
      have h := l54_2_spec (ord := ord19.take (v2 + 4)) ord_mem (by omega) hb hbl ((v0 + 257 : Nat) : Int) ((v1 + 1 : Nat) : Int) (n : Int) most T FU 0 (p + 14) (List.replicate 19 0) (by unfold FU; omega) (Nat.zero_le _) (by omega) (List.length_replicate ..)
      rw [hol, List.drop_zero] at h
      have e0 : ((0 : Nat) : Int) = 0 := rfl
      rw [e0] at h
      have hlim := fun few' p' => fewR_lim (b := b) (ord19.take (v2 + 4)) (List.replicate 19 0) (p + 14) (by omega) few' p'
      rw [show l54_2 = loopN g54_2 o54_2 b54_2 FU from rfl]
      generalize fewR b (ord19.take (v2 + 4)) (List.replicate 19 0) (p + 14) = r at h hlim ⊢
      cases r with
      | inr e =>
        obtain ⟨h0, z, hz⟩ := h
        rw [hz, Option.bind_some, Sum.elim_inr, Sum.elim_inl]
        dsimp only
        rw [if_pos rfl]
        exact ⟨h0, _, rfl⟩
      | inl r =>
        obtain ⟨few, p1⟩ := r
        obtain ⟨f1, f2, f3⟩ := hlim few p1 rfl
        dsimp only at h ⊢
        rw [h, Option.bind_some, Sum.elim_inl]
        dsimp only
        rw [if_pos rfl, if_pos rfl]
        unfold b54_1
        dsimp only
        rw [full, f32_eqn]
        by_cases c4 : errM few ≠ 0
        · rw [if_pos c4, if_neg c4, Option.bind_some, Sum.elim_inl, if_pos rfl, Option.bind_some, Sum.elim_inl]
          dsimp only
          rw [if_pos (bne_iff_ne.2 c4), if_pos rfl]
          exact ⟨c4, _, rfl⟩
        · have c4' : errM few = 0 := Decidable.not_not.1 c4
          have hfl := errM_len c4'
          rw [if_neg c4, if_pos c4', Option.bind_some, Sum.elim_inr, if_pos rfl, if_pos rfl, Option.bind_some, Sum.elim_inr, Sum.elim_inl]
          dsimp only
          have w3 : IntKind.wrap .i64 (((v0 + 257 : Nat) : Int) + ((v1 + 1 : Nat) : Int)) = ((v0 + 257 + (v1 + 1) : Nat) : Int) := by rw [wrap_i64 (by omega)]; omega
          obtain ⟨z, hz, hZ⟩ := f77_eqn hfl hb hbl (all := v0 + 257 + (v1 + 1)) (by omega) (n : Int) most T f2
          rw [if_neg (show ¬ (((0 : Int) != 0) = true) by decide), if_pos rfl, if_pos rfl, w3, hz, Option.bind_some]
          have hlim := fun l p2 => lensR_lim (few := few) (b := b) (all := v0 + 257 + (v1 + 1)) FU [] p1 f2 (Nat.zero_le _) l p2
          generalize lensR few b (v0 + 257 + (v1 + 1)) FU [] p1 = r at hZ hlim ⊢
          cases r with
          | inr e =>
            obtain ⟨zo, ze, zr⟩ := z
            obtain ⟨h0, h1⟩ := hZ
            dsimp only at h1 ⊢
            subst h1
            rw [if_pos (bne_iff_ne.2 h0), if_pos rfl]
            exact ⟨h0, _, rfl⟩
          | inl r =>
            obtain ⟨l, p2⟩ := r
            obtain ⟨k1, k2, k3⟩ := hlim l p2 rfl
            have hZ' : z = _ := hZ
            subst hZ'
            dsimp only
            unfold tabsR
            rw [if_neg (show ¬ (((0 : Int) != 0) = true) by decide), if_pos (show (256 : Int) < ((l.length : Nat) : Int) by rw [k3]; omega)]
            by_cases c5 : l.getD 256 0 = 0
            · rw [if_pos c5, if_pos (show (l.getD 256 0 == 0) = true from beq_iff_eq.2 c5), if_pos rfl]
              exact ⟨by decide, _, rfl⟩
            · rw [if_neg c5, if_neg (show ¬ ((l.getD 256 0 == 0) = true) from fun h => c5 (beq_iff_eq.1 h)), if_pos (show (0 : Int) ≤ ((v0 + 257 : Nat) : Int) by omega), if_pos (show ((v0 + 257 : Nat) : Int) ≤ ((l.length : Nat) : Int) by rw [k3]; omega), Int.toNat_natCast, f32_eqn]
              by_cases c6 : errM (l.take (v0 + 257)) ≠ 0
              · rw [if_pos c6, if_neg c6, Option.bind_some, Sum.elim_inl]
                dsimp only
                rw [if_pos (bne_iff_ne.2 c6), if_pos rfl]
                exact ⟨c6, _, rfl⟩
              · have c6' : errM (l.take (v0 + 257)) = 0 := Decidable.not_not.1 c6
                rw [if_neg c6, if_pos c6', Option.bind_some, Sum.elim_inr]
                dsimp only
                rw [if_neg (show ¬ (((0 : Int) != 0) = true) by decide), if_pos (show (0 : Int) ≤ ((v0 + 257 : Nat) : Int) by omega), if_pos (show ((v0 + 257 : Nat) : Int) ≤ ((l.length : Nat) : Int) by rw [k3]; omega), f32_eqn]
                by_cases c7 : errM (l.drop (v0 + 257)) ≠ 0
                · rw [if_pos c7, if_neg c7, Option.bind_some, Sum.elim_inl]
                  dsimp only
                  rw [if_pos (bne_iff_ne.2 c7), if_pos rfl]
                  exact ⟨c7, _, rfl⟩
                · have c7' : errM (l.drop (v0 + 257)) = 0 := Decidable.not_not.1 c7
                  obtain ⟨z, h1, h2⟩ := f76_eqn (errM_len c6') (errM_len c7') hb hbl hm k2 hI.len hI.lim
                  rw [if_neg c7, if_pos c7', Option.bind_some, Sum.elim_inr]
                  dsimp only
                  rw [if_neg (show ¬ (((0 : Int) != 0) = true) by decide), if_pos rfl, if_pos rfl, if_pos rfl, h1, Option.bind_some, if_pos rfl]
                  exact ends_of_ZW h2
theorem b24_2_eqn {b : List Int} (hb : IsB b) (hbl : b.length ≤ 100000) {most : Int} (hm : most ≤ 1048576) {n : Nat} {T : List Tok} (hI : Inv most n T) {p : Nat} (hp : p ≤ 8 * b.length) (v0 kind : Nat) (b' : List Int) :
    (match kindR b most kind n T p with
    | .inl (n', T', p') => b24_2 (b', [(v0 : Int), (kind : Int)], (n : Int), most, b, ((ra p : Nat) : Int), ((rw' b p : Nat) : Int), ((rm p : Nat) : Int), T, ()) = some (.inl (b', [(v0 : Int), (kind : Int)], 0, (n' : Int), most, b, ((ra p' : Nat) : Int), ((rw' b p' : Nat) : Int), ((rm p' : Nat) : Int), T', ()))
    | .inr e => e ≠ 0 ∧ ∃ z, b24_2 (b', [(v0 : Int), (kind : Int)], (n : Int), most, b, ((ra p : Nat) : Int), ((rw' b p : Nat) : Int), ((rm p : Nat) : Int), T, ()) = some (.inl (b', [(v0 : Int), (kind : Int)], e, z))) := by
  have g1 : ([(v0 : Int), (kind : Int)] : List Int).getD 1 0 = (kind : Int) := rfl
  have hl2 : ((List.length [(v0 : Int), (kind : Int)] : Nat) : Int) = 2 := rfl
  unfold kindR b24_2
  dsimp only
  rw [g1, hl2]
  by_cases c0 : kind = 0
  · have h := f52_eqn hb hbl hI.lim hm hI.len hp
    rw [if_pos c0]
    rw [if_pos (show (1 : Int) < 2 by decide), if_pos (show ((kind : Int) == 0) = true by rw [beq_iff_eq]; omega), if_pos rfl]
    generalize f52 ((n : Int), most, b, ((ra p : Nat) : Int), ((rw' b p : Nat) : Int), ((rm p : Nat) : Int), T, ()) = X at h ⊢
    generalize storedR b most n T p = r at h ⊢
    cases r with
    | inl r =>
      obtain ⟨n', T', p'⟩ := r
      have h' : X = _ := h
      subst h'
      rw [Option.bind_some]
      dsimp only
      rw [if_pos rfl]
    | inr e =>
      obtain ⟨h0, z, h'⟩ := h
      subst h'
      rw [Option.bind_some]
      dsimp only
      rw [if_pos rfl]
      exact ⟨h0, _, rfl⟩
  · rw [if_neg c0]
    by_cases c1 : kind = 1
    · have h := f53_eqn hb hbl hm hI hp
      rw [if_pos c1]
      rw [if_pos (show (1 : Int) < 2 by decide), if_neg (show ¬ (((kind : Int) == 0) = true) by rw [beq_iff_eq]; omega), if_pos (show ((kind : Int) == 1) = true by rw [beq_iff_eq]; omega), if_pos rfl]
      generalize f53 ((n : Int), most, b, ((ra p : Nat) : Int), ((rw' b p : Nat) : Int), ((rm p : Nat) : Int), T, ()) = X at h ⊢
      generalize wordsR fixL fixD b most FU n T p = r at h ⊢
      cases r with
      | inl r =>
        obtain ⟨n', T', p'⟩ := r
        have h' : X = _ := h
        subst h'
        rw [Option.bind_some]
        dsimp only
        rw [if_pos rfl]
      | inr e =>
        obtain ⟨h0, z, h'⟩ := h
        subst h'
        rw [Option.bind_some]
        dsimp only
        rw [if_pos rfl]
        exact ⟨h0, _, rfl⟩
    · rw [if_neg c1]
      by_cases c2 : kind = 2
      · have h := f54_eqn hb hbl hm hI hp
        rw [if_pos c2]
        rw [if_pos (show (1 : Int) < 2 by decide), if_neg (show ¬ (((kind : Int) == 0) = true) by rw [beq_iff_eq]; omega), if_neg (show ¬ (((kind : Int) == 1) = true) by rw [beq_iff_eq]; omega), if_pos (show ((kind : Int) == 2) = true by rw [beq_iff_eq]; omega), if_pos rfl]
        generalize f54 ((n : Int), most, b, ((ra p : Nat) : Int), ((rw' b p : Nat) : Int), ((rm p : Nat) : Int), T, ()) = X at h ⊢
        generalize ownR b most n T p = r at h ⊢
        cases r with
        | inl r =>
          obtain ⟨n', T', p'⟩ := r
          have h' : X = _ := h
          subst h'
          rw [Option.bind_some]
          dsimp only
          rw [if_pos rfl]
        | inr e =>
          obtain ⟨h0, z, h'⟩ := h
          subst h'
          rw [Option.bind_some]
          dsimp only
          rw [if_pos rfl]
          exact ⟨h0, _, rfl⟩
      · rw [if_neg c2, if_pos (show (1 : Int) < 2 by decide), if_neg (show ¬ (((kind : Int) == 0) = true) by rw [beq_iff_eq]; omega), if_neg (show ¬ (((kind : Int) == 1) = true) by rw [beq_iff_eq]; omega), if_neg (show ¬ (((kind : Int) == 2) = true) by rw [beq_iff_eq]; omega), if_pos rfl]
        exact ⟨by decide, _, rfl⟩
theorem l24_1_spec {b : List Int} (hb : IsB b) (hbl : b.length ≤ 100000) {most : Int} (hm : most ≤ 1048576) : ∀ (k n p : Nat) (T : List Tok), 8 * b.length < p + k → p ≤ 8 * b.length → Inv most n T →
    (match blocksR b most k n T p with
    | .inl (n', T', p') => loopN g24_1 o24_1 b24_1 k (b, (n : Int), most, b, ((ra p : Nat) : Int), ((rw' b p : Nat) : Int), ((rm p : Nat) : Int), T, ()) = some (.inr (.inl (b, (n' : Int), most, b, ((ra p' : Nat) : Int), ((rw' b p' : Nat) : Int), ((rm p' : Nat) : Int), T', ())))
    | .inr e => loopN g24_1 o24_1 b24_1 k (b, (n : Int), most, b, ((ra p : Nat) : Int), ((rw' b p : Nat) : Int), ((rm p : Nat) : Int), T, ()) = some (.inl ([], 0, e, ()))) := by
  intro k
  induction k with
  | zero => intro n p T h1 h2; exfalso; omega
  | succ k ih =>
    intro n p T h1 h2 hI
    rw [loopN_succ]
    generalize hL : loopN g24_1 o24_1 b24_1 k = L at ih ⊢
    unfold blocksR b24_1
    dsimp only
    have e1 : List.take 2 (List.drop 0 (List.set (List.set (List.replicate 2 (0 : Int)) 0 1) 1 2)) = [1, 2] := rfl
    rw [if_pos rfl, e1, f51_eqn hb hbl (by intro n hn; rcases List.mem_cons.1 hn with rfl | h; omega; rw [List.mem_singleton] at h; omega) (by decide) _ _ T h2]
    rw [numsR_two b p (x := 1) (y := 2), show Int.toNat 1 = 1 from rfl, show Int.toNat 2 = 2 from rfl, show p + 1 + 2 = p + 3 by omega]
    by_cases c1 : 8 * b.length < p + 3
    · rw [if_pos c1, if_neg (show ¬ (p + 3 ≤ 8 * b.length) by omega)]
      dsimp only
      rw [Option.bind_some]
      dsimp only
      rw [if_pos (show ((6 : Int) != 0) = true by decide)]
      rfl
    · have g0 : p + 3 ≤ 8 * b.length := by omega
      rw [if_neg c1, if_pos g0]
      dsimp only
      rw [Option.bind_some]
      dsimp only
      rw [if_neg (show ¬ (((0 : Int) != 0) = true) by decide), if_pos rfl]
      have h := b24_2_eqn hb hbl hm hI g0 (bitsAt b p 1) (bitsAt b (p + 1) 2) b
      have hlim := fun n' T' p' => kindR_inv (most := most) (kind := bitsAt b (p + 1) 2) hb g0 hI (n' := n') (T' := T') (p' := p')
      generalize kindR b most (bitsAt b (p + 1) 2) n T (p + 3) = r at h hlim ⊢
      generalize bitsAt b (p + 1) 2 = kind at h ⊢
      generalize bitsAt b p 1 = v0 at h ⊢
      cases r with
      | inr e =>
        obtain ⟨h0, z, hz⟩ := h
        rw [hz, Option.bind_some, Sum.elim_inl]
        dsimp only
        rw [if_pos (bne_iff_ne.2 h0)]
        rfl
      | inl r =>
        obtain ⟨n1, T1, p1⟩ := r
        obtain ⟨k1, k2, k3⟩ := hlim n1 T1 p1 rfl
        dsimp only at h ⊢
        have g1 : ([(v0 : Int), (kind : Int)] : List Int).getD 0 0 = (v0 : Int) := rfl
        have hl2 : ((List.length [(v0 : Int), (kind : Int)] : Nat) : Int) = 2 := rfl
        rw [h, Option.bind_some, Sum.elim_inl]
        dsimp only
        rw [if_neg (show ¬ (((0 : Int) != 0) = true) by decide), g1, hl2, if_pos (show (0 : Int) < 2 by decide)]
        by_cases c2 : v0 = 1
        · rw [if_pos c2, if_pos (show ((v0 : Int) == 1) = true by rw [beq_iff_eq]; omega), if_pos rfl]
          rfl
        · rw [if_neg c2, if_neg (show ¬ (((v0 : Int) == 1) = true) by rw [beq_iff_eq]; omega), if_pos rfl, Option.bind_some, Sum.elim_inl]
          exact ih n1 p1 T1 (by omega) k2 k3
theorem f24_eqn {b : List Int} (hb : IsB b) (hbl : b.length ≤ 100000) (most : Int) : f24 (b, most, ()) = some (tokR b most) := by
  unfold tokR
  by_cases c : most < 0 ∨ 1048576 < most
  · rw [if_pos c]
    unfold f24
    dsimp only
    by_cases c1 : most < 0
    · rw [if_pos (decide_eq_true c1)]
    · rw [if_neg (fun h => c1 (of_decide_eq_true h)), if_pos (decide_eq_true (c.resolve_left c1))]
  · rw [if_neg c]
    have h0 : 0 ≤ most := by omega
    have hm : most ≤ 1048576 := by omega
    have h := l24_1_spec hb hbl hm FU 0 0 [] (by unfold FU; omega) (Nat.zero_le _) (Inv.nil h0)
    have hlim := fun n' T' p' => blocksR_inv hb (most := most) FU 0 [] 0 (Nat.zero_le _) (Inv.nil h0) n' T' p'
    generalize blocksR b most FU 0 [] 0 = r at h hlim ⊢
    cases r with
    | inl r =>
      obtain ⟨n, T, p⟩ := r
      exact f24_ends hbl h0 hm (hlim n T p rfl).2.1 h
    | inr e =>
      unfold f24
      dsimp only at h ⊢
      rw [if_neg (by rw [decide_eq_true_eq]; omega), if_neg (by rw [decide_eq_true_eq]; omega), f50_pos hbl, Option.bind_some]
      dsimp only
      rw [show l24_1 = loopN g24_1 o24_1 b24_1 FU from rfl]
      have h' : loopN g24_1 o24_1 b24_1 FU (b, 0, most, b, ((ra 0 : Nat) : Int), ((rw' b 0 : Nat) : Int), ((rm 0 : Nat) : Int), [], ()) = _ := h
      rw [h', Option.bind_some, Sum.elim_inl]
theorem tokR_ok {b : List Int} (hb : IsB b) {most : Int} : ((tokR b most).2.2.1 ≠ 0 ∧ (tokR b most).1 = [] ∧ (tokR b most).2.1 = 0) ∨ ((tokR b most).2.2.1 = 0 ∧ (0 ≤ most ∧ most ≤ 1048576) ∧ ∃ n, Inv most n (tokR b most).1 ∧ 0 ≤ (tokR b most).2.1 ∧ (tokR b most).2.1 ≤ ((b.length : Nat) : Int)) := by
  unfold tokR
  by_cases c : most < 0 ∨ 1048576 < most
  · rw [if_pos c]; exact .inl ⟨by decide, rfl, rfl⟩
  · rw [if_neg c]
    have h0 : 0 ≤ most := by omega
    cases h : blocksR b most FU 0 [] 0 with
    | inr e => exact .inl ⟨blocksR_inr _ _ _ _ _ h, rfl, rfl⟩
    | inl r =>
      obtain ⟨n, T, p⟩ := r
      obtain ⟨g1, g2, g3⟩ := blocksR_inv hb (most := most) FU 0 [] 0 (Nat.zero_le _) (Inv.nil h0) n T p h
      exact .inr ⟨rfl, ⟨h0, by omega⟩, n, g3, by dsimp only; omega, by dsimp only; omega⟩
noncomputable def infR (b : List Int) (most : Int) : List Int × Int × Int × Unit := if (tokR b most).2.2.1 ≠ 0 then ([], 0, (tokR b most).2.2.1, ()) else ((expd (tokR b most).1 most).1, (tokR b most).2.1, (expd (tokR b most).1 most).2.1, ())
theorem Inv.small {most : Int} {n : Nat} {T : List Tok} (h : Inv most n T) (hm : most ≤ 1048576) : T.length < 2 ^ 60 := by
  have := h.len
  have := h.lim
  omega
theorem f18_eqn {b : List Int} (hb : IsB b) (hbl : b.length ≤ 100000) (most : Int) : f18 (b, most, ()) = some (infR b most) := by
  unfold f18 infR
  dsimp only
  rw [f24_eqn hb hbl, Option.bind_some]
  rcases tokR_ok hb (most := most) with ⟨h1, _⟩ | ⟨h1, h2, n, h3, _⟩
  · rw [if_pos (bne_iff_ne.2 h1), if_pos h1]
  · rw [if_neg (by rw [h1]; decide), if_neg (by rw [h1]; decide), f25_eqn (h3.small h2.2), Option.bind_some]
theorem Inv.expd {most : Int} (h0 : 0 ≤ most) (hm : most ≤ 1048576) {n : Nat} {T : List Tok} (h : Inv most n T) : ∃ o, exp most T [] = .inl o ∧ o.length = n ∧ Zlib.expd T most = (o, 0, ()) := by
  obtain ⟨o, h1, h2⟩ := h.out
  refine ⟨o, h1, h2, ?_⟩
  unfold Zlib.expd
  rw [if_neg (by rw [h.tok]; rintro (h | h | h) <;> first | omega | cases h), h1]
end Go.Ev.Zlib
namespace Go.Ev.Zlib
theorem infR_ok {b : List Int} (hb : IsB b) {most : Int} :
    ((tokR b most).2.2.1 ≠ 0 ∧ (tokR b most).1 = [] ∧ infR b most = ([], 0, (tokR b most).2.2.1, ())) ∨
    ((tokR b most).2.2.1 = 0 ∧ (0 ≤ most ∧ most ≤ 1048576) ∧ ∃ o, Inv most o.length (tokR b most).1 ∧ exp most (tokR b most).1 [] = .inl o ∧ expd (tokR b most).1 most = (o, 0, ()) ∧ infR b most = (o, (tokR b most).2.1, 0, ()) ∧ (tokR b most).2.1 ≤ ((b.length : Nat) : Int)) := by
  rcases tokR_ok hb (most := most) with ⟨h1, h2, h3⟩ | ⟨h1, h2, n, h3, h4, h5⟩
  · refine .inl ⟨h1, h2, ?_⟩
    unfold infR
    rw [if_pos h1]
  · obtain ⟨o, g1, g2, g3⟩ := h3.expd h2.1 h2.2
    subst g2
    refine .inr ⟨h1, h2, o, h3, g1, g3, ?_, h5⟩
    unfold infR
    rw [if_neg (fun h => h h1), g3]
end Go.Ev.Zlib
