/- Part of a proof about the given program: DeflB. -/
import Derived.Test.YtjbkmodcnfffiaaDeflA
namespace Go.Ev.Deflate

abbrev Tok := Int × Int × Int
theorem drop_getD {α : Type} {l : List α} {i : Nat} (h : i < l.length) (d : α) : l.drop i = l.getD i d :: l.drop (i + 1) := by
  rw [List.getD_eq_getElem?_getD, List.getElem?_eq_getElem h]
  exact List.drop_eq_getElem_cons h

/-! # No row could be longer, nor nearer -/
theorem l4_3_spec {b : List Int} (hl : b.length ≤ 10000000) (T : List Tok) (i n : Int) {at' back : Nat} (hat : at' ≤ b.length) (hb : 1 ≤ back ∧ back ≤ at') : ∀ (r k m : Nat), m + r = 258 → r < k →
    loopN g4_3 o4_3 b4_3 k (b, T, (at' : Int), i, n, (back : Int), (m : Int), ()) = some (.inl (b, T, (at' : Int), i, n, (back : Int), ((runF b at' back r m : Nat) : Int), ())) := by
  intro r
  induction r with
  | zero =>
    intro k m hn hk
    obtain ⟨k, rfl⟩ : ∃ j, k = j + 1 := ⟨k - 1, by omega⟩
    rw [loopN_succ]
    generalize loopN g4_3 o4_3 b4_3 k = L
    unfold b4_3
    dsimp only
    rw [if_neg (by rw [decide_eq_true_eq]; omega)]
    rfl
  | succ r ih =>
    intro k m hn hk
    obtain ⟨k, rfl⟩ : ∃ j, k = j + 1 := ⟨k - 1, by omega⟩
    have ih := ih k (m + 1) (by omega) (by omega)
    rw [loopN_succ]
    generalize hL : loopN g4_3 o4_3 b4_3 k = L at ih ⊢
    have w1 : IntKind.wrap .i64 ((at' : Int) + (m : Int)) = ((at' + m : Nat) : Int) := by rw [wrap_i64 (by omega)]; omega
    have w2 : IntKind.wrap .i64 (((at' + m : Nat) : Int) - (back : Int)) = ((at' + m - back : Nat) : Int) := by rw [wrap_i64 (by omega)]; omega
    have w3 : IntKind.wrap .i64 ((m : Int) + 1) = ((m + 1 : Nat) : Int) := by rw [wrap_i64 (by omega)]; omega
    unfold b4_3
    dsimp only
    rw [w1, w2, w3]
    rw [if_pos (by rw [decide_eq_true_eq]; omega)]
    unfold runF
    by_cases c1 : at' + m < b.length
    · rw [if_pos (by rw [decide_eq_true_eq]; omega), if_pos (by omega), if_pos (by omega), if_pos (by omega), if_pos (by omega), Int.toNat_natCast, Int.toNat_natCast]
      by_cases c2 : b.getD (at' + m) 0 = b.getD (at' + m - back) 0
      · rw [if_pos (show at' + m < b.length ∧ b.getD (at' + m) 0 = b.getD (at' + m - back) 0 from ⟨c1, c2⟩), if_pos (by rw [beq_iff_eq]; exact c2), Option.bind_some, Sum.elim_inl]
        exact ih
      · rw [if_neg (show ¬ (at' + m < b.length ∧ b.getD (at' + m) 0 = b.getD (at' + m - back) 0) from fun h => c2 h.2), if_neg (by rw [beq_iff_eq]; exact c2)]
        rfl
    · rw [if_neg (by rw [decide_eq_true_eq]; omega), if_neg (fun h => c1 h.1)]
      rfl
theorem l4_2_spec {b : List Int} (hl : b.length ≤ 10000000) {T : List Tok} {i : Nat} (hi : i < T.length) {t : Tok} (hg : T.getD i (0, 0, 0) = t) {at' : Nat} (hat : at' ≤ b.length) (g : Good b at' t) : ∀ (k back : Nat), 1026 < back + k → 1 ≤ back → back ≤ 1025 →
    loopN g4_2 o4_2 b4_2 k (b, T, (at' : Int), (i : Int), t.2.1, (back : Int), ()) = some (.inl (b, T, (at' : Int), (i : Int), t.2.1, ())) := by
  intro k
  induction k with
  | zero => intro back h1 h2 h3; omega
  | succ k ih =>
    intro back h1 h2 h3
    rw [loopN_succ]
    generalize hLL : loopN g4_2 o4_2 b4_2 k = LL at ih ⊢
    unfold b4_2
    dsimp only
    by_cases c1 : back ≤ at'
    · rw [if_pos (by rw [decide_eq_true_eq]; omega)]
      by_cases c2 : back ≤ 1024
      · have hr := l4_3_spec hl T (i : Int) t.2.1 hat ⟨h2, c1⟩ 258 18446744073709551616 0 rfl (by omega)
        have hr' : loopN g4_3 o4_3 b4_3 18446744073709551616 (b, T, (at' : Int), (i : Int), t.2.1, (back : Int), 0, ()) = some (.inl (b, T, (at' : Int), (i : Int), t.2.1, (back : Int), ((runN b at' back : Nat) : Int), ())) := hr
        rw [if_pos (by rw [decide_eq_true_eq]; omega), show l4_3 = loopN g4_3 o4_3 b4_3 18446744073709551616 from rfl]
        generalize loopN g4_3 o4_3 b4_3 18446744073709551616 (b, T, (at' : Int), (i : Int), t.2.1, (back : Int), 0, ()) = X at hr' ⊢
        subst hr'
        rw [Option.bind_some, Sum.elim_inl]
        dsimp only
        rw [Int.toNat_natCast, hg]
        obtain ⟨L, K, hB, hLK⟩ := g
        have htop := hB.top back h2 c1 c2
        have hnear := hB.near back h2
        have hI := ih (back + 1) (by omega) (by omega) (by omega)
        rw [if_neg (by rw [decide_eq_true_eq]; rcases hLK with ⟨h, e⟩ | ⟨h, e⟩ <;> rw [e] <;> dsimp only <;> omega), show IntKind.wrap .i64 ((back : Int) + 1) = ((back + 1 : Nat) : Int) by rw [wrap_i64 (by omega)]; omega]
        by_cases c3 : ((runN b at' back : Nat) : Int) = t.2.1
        · rw [if_pos (beq_iff_eq.2 c3)]
          by_cases c4 : t.2.1 > 0
          · rw [if_pos (decide_eq_true c4), if_pos (by omega), if_pos (by omega), if_neg, Option.bind_some, Sum.elim_inl]
            · exact hI
            · rw [decide_eq_true_eq]
              rcases hLK with ⟨h, e⟩ | ⟨h, e⟩
              · rw [e] at c4; dsimp only at c4; omega
              · rw [e] at c3 ⊢; dsimp only at c3 ⊢
                intro hlt
                have := hnear (by omega)
                omega
          · rw [if_neg (fun h => c4 (of_decide_eq_true h)), Option.bind_some, Sum.elim_inl]
            exact hI
        · rw [if_neg (fun h => c3 (beq_iff_eq.1 h)), Option.bind_some, Sum.elim_inl]
          exact hI
      · rw [if_neg (by rw [decide_eq_true_eq]; omega)]
        rfl
    · rw [if_neg (by rw [decide_eq_true_eq]; omega)]
      rfl
theorem l4_1_spec {b : List Int} (hl : b.length ≤ 300) {T : List Tok} (hT : T.length ≤ 1000) : ∀ (k i at' : Nat), T.length < i + k → i ≤ T.length → at' ≤ b.length → Toks b at' (T.drop i) →
    loopN g4_1 o4_1 b4_1 k (b, T, (at' : Int), (i : Int), ()) = some (.inl (b, ((b.length : Nat) : Int), ())) := by
  intro k
  induction k with
  | zero => intro i at' h1 h2; omega
  | succ k ih =>
    intro i at' h1 h2 h3 h4
    rw [loopN_succ]
    generalize hLL : loopN g4_1 o4_1 b4_1 k = LL at ih ⊢
    unfold b4_1
    dsimp only
    rcases Nat.lt_or_ge i T.length with h | h
    · rw [drop_getD h (0, 0, 0)] at h4
      rw [Int.toNat_natCast]
      generalize hg : T.getD i (0, 0, 0) = t at h4 ⊢
      cases h4 with
      | cons hlt g r =>
        have hr := l4_2_spec (by omega) h hg h3 g 18446744073709551616 1 (by omega) (by omega) (by omega)
        have hr' : loopN g4_2 o4_2 b4_2 18446744073709551616 (b, T, (at' : Int), (i : Int), t.2.1, 1, ()) = _ := hr
        obtain ⟨L, K, hB, hLK⟩ := g
        have hb1 : 0 ≤ t.2.1 ∧ t.2.1 ≤ ((b.length - at' : Nat) : Int) ∧ t.2.2 ≤ (at' : Int) ∧ 0 ≤ t.2.2 := by
          rcases hLK with ⟨h, e⟩ | ⟨h, e⟩
          · rw [e]; dsimp only; omega
          · rw [e]; dsimp only
            rcases hB.is with ⟨h0, _⟩ | ⟨_, h5, _, h0, _⟩
            · omega
            · have := runN_fit b at' K h3; omega
        have w1 : IntKind.wrap .i64 (((b.length : Nat) : Int) - (at' : Int)) = ((b.length - at' : Nat) : Int) := by rw [wrap_i64 (by omega)]; omega
        rw [if_pos (by rw [decide_eq_true_eq]; omega), if_pos (by omega), if_pos (by omega), if_neg (fun h => Int.not_lt.2 hb1.1 (of_decide_eq_true h)), w1, if_neg (fun h => Int.not_lt.2 hb1.2.1 (of_decide_eq_true h)), if_pos (by omega), if_pos (by omega),
          if_neg (fun h => Int.not_lt.2 hb1.2.2.1 (of_decide_eq_true h)), if_neg (by rw [decide_eq_true_eq]; omega), show l4_2 = loopN g4_2 o4_2 b4_2 18446744073709551616 from rfl]
        generalize loopN g4_2 o4_2 b4_2 18446744073709551616 (b, T, (at' : Int), (i : Int), t.2.1, 1, ()) = X at hr' ⊢
        subst hr'
        rw [Option.bind_some, Sum.elim_inl, Option.bind_some, Sum.elim_inl]
        dsimp only
        have w2 : IntKind.wrap .i64 ((at' : Int) + max t.2.1 1) = ((at' + max t.2.1.toNat 1 : Nat) : Int) := by rw [wrap_i64 (by omega)]; omega
        rw [w2, show IntKind.wrap .i64 ((i : Int) + 1) = ((i + 1 : Nat) : Int) by rw [wrap_i64 (by omega)]; omega]
        exact ih (i + 1) _ (by omega) (by omega) (by omega) r
    · rw [List.drop_of_length_le h] at h4
      rw [if_neg (by rw [decide_eq_true_eq]; omega)]
      cases h4
      rfl
theorem Toks.len {b : List Int} {at' : Nat} {T : List Tok} (h : Toks b at' T) : at' + T.length ≤ b.length := by
  induction h with
  | nil => simp
  | cons h g r ih => rw [List.length_cons]; omega
theorem deflateLong_pure {b : List Int} (hB : IsB b) : f4 (b, ()) = some (true, ()) := by
  unfold f4
  dsimp only
  by_cases c : 300 < b.length
  · rw [if_pos (by rw [decide_eq_true_eq]; omega)]
  · obtain ⟨T, t1, t2⟩ := f9_eqn hB (by omega)
    have hlen := t1.len
    have hr := l4_1_spec (b := b) (by omega) (T := T) (by omega) 18446744073709551616 0 0 (by omega) (by omega) (by omega) (by rw [List.drop_zero]; exact t1)
    have hr' : loopN g4_1 o4_1 b4_1 18446744073709551616 (b, T, 0, 0, ()) = _ := hr
    rw [if_neg (by rw [decide_eq_true_eq]; omega), t2, Option.bind_some]
    dsimp only
    rw [if_neg (by decide), List.drop_zero, List.take_length, show l4_1 = loopN g4_1 o4_1 b4_1 18446744073709551616 from rfl]
    generalize loopN g4_1 o4_1 b4_1 18446744073709551616 (b, T, 0, 0, ()) = X at hr' ⊢
    subst hr'
    rw [Option.bind_some, Sum.elim_inl, awake_true, Option.bind_some]
    dsimp only
    rw [if_pos rfl, beq_self_eq_true]

/-! # One byte often -/
def AllC (b : List Int) (n : Nat) (c : Int) (i : Nat) : Prop := b.length = n ∧ ∀ j, j < i → b.getD j 0 = c
theorem l5_1_spec {n : Nat} (hn : n ≤ 2000) (c : Int) : ∀ (k i : Nat) (b : List Int), n < i + k → i ≤ n → AllC b n c i →
    ∃ b', AllC b' n c n ∧ loopN g5_1 o5_1 b5_1 k (c, (n : Int), (i : Int), b, ()) = some (.inl (c, (n : Int), b', ())) := by
  intro k
  induction k with
  | zero => intro i b h1 h2; omega
  | succ k ih =>
    intro i b h1 h2 h3
    rw [loopN_succ]
    generalize hLL : loopN g5_1 o5_1 b5_1 k = LL at ih ⊢
    unfold b5_1
    dsimp only
    rcases Nat.lt_or_ge i n with h | h
    · have hb := h3.1
      rw [if_pos (by rw [decide_eq_true_eq]; omega), if_pos (by omega), if_pos (by omega), if_pos (by rw [List.length_set]), Int.toNat_natCast, Nat.zero_add, Option.bind_some, Sum.elim_inl, show IntKind.wrap .i64 ((i : Int) + 1) = ((i + 1 : Nat) : Int) by rw [wrap_i64 (by omega)]; omega]
      refine ih (i + 1) _ (by omega) (by omega) ⟨by rw [List.length_set]; exact hb, fun j hj => ?_⟩
      rw [List.getD_eq_getElem?_getD, List.getElem?_set]
      by_cases e : i = j
      · rw [if_pos e, if_pos (by omega)]; rfl
      · rw [if_neg e, ← List.getD_eq_getElem?_getD]
        exact h3.2 j (by omega)
    · rw [if_neg (by rw [decide_eq_true_eq]; omega), if_pos rfl]
      have : i = n := by omega
      subst this
      exact ⟨b, h3, rfl⟩
theorem runN_all_eq {b : List Int} {n : Nat} {c : Int} (hA : AllC b n c n) {at' back : Nat} (hat : at' ≤ n) (hb : 1 ≤ back ∧ back ≤ at') : runN b at' back = min 258 (n - at') := by
  have h1 := runN_le b at' back
  have h2 := runN_fit b at' back (by rw [hA.1]; exact hat)
  rw [hA.1] at h2
  rcases runN_end b at' back with h | h
  · omega
  · rw [hA.1] at h
    by_cases e : at' + runN b at' back < n
    · exact absurd ⟨e, by rw [hA.2 _ e, hA.2 _ (by omega)]⟩ h
    · omega
theorem good_all {b : List Int} {n : Nat} {c : Int} (hA : AllC b n c n) {at' : Nat} (hat : at' < n) {t : Tok} (g : Good b at' t) :
    (1 ≤ at' ∧ 3 ≤ n - at' ∧ t = (0, ((min 258 (n - at') : Nat) : Int), 1)) ∨ ((at' = 0 ∨ n - at' < 3) ∧ t = (c, 0, 0)) := by
  obtain ⟨L, K, hB, hLK⟩ := g
  by_cases h0 : at' = 0
  · have hL : L = 0 := by
      rcases hB.is with h | h
      · exact h.1
      · omega
    rcases hLK with ⟨_, e⟩ | ⟨h, e⟩
    · exact .inr ⟨.inl h0, by rw [e, hA.2 _ hat]⟩
    · omega
  · have htop := hB.top 1 (by omega) (by omega) (by omega)
    rw [runN_all_eq hA (by omega) ⟨by omega, by omega⟩] at htop
    rcases hB.is with h | ⟨k1, k2, k3, k4, k5⟩
    · omega
    · rw [runN_all_eq hA (by omega) ⟨k1, k2⟩] at k4
      rcases hLK with ⟨h, e⟩ | ⟨h, e⟩
      · exact .inr ⟨.inr (by omega), by rw [e, hA.2 _ hat]⟩
      · have hK : K = 1 := by
          rcases Nat.lt_or_ge 1 K with h' | h'
          · have := hB.near 1 (by omega) h'
            rw [runN_all_eq hA (by omega) ⟨by omega, by omega⟩] at this
            omega
          · omega
        exact .inl ⟨by omega, by omega, by rw [e, hK, k4]; rfl⟩
theorem b5_3_eqn {c : Int} (hc : 0 ≤ c ∧ c < 256) (T : List Tok) (e : Int) {left i : Nat} {t : Tok}
    (h : (1 ≤ i ∧ 3 ≤ left ∧ t = (0, ((min 258 left : Nat) : Int), 1)) ∨ ((i = 0 ∨ left < 3) ∧ t = (c, 0, 0))) :
    b5_3 (c, T, e, (left : Int), (i : Int), t.1, t.2.1, t.2.2, ()) = some (.inl (c, T, e, (left : Int), (i : Int), false, t.1, t.2.1, t.2.2, ())) := by
  unfold b5_3
  dsimp only
  have hc' : IntKind.wrap .i64 c = c := wrap_i64 (by omega)
  have hne : ∀ x : Int, ¬ ((x != x) = true) := fun x => by rw [bne_self_eq_false]; decide
  rcases h with ⟨h1, h2, rfl⟩ | ⟨h1, rfl⟩
  · dsimp only
    rw [if_pos (by rw [decide_eq_true_eq]; omega), if_pos (by rw [decide_eq_true_eq]; omega), show ((min 258 left : Nat) : Int) = min ((left : Nat) : Int) 258 by omega, if_neg (hne _), if_neg (hne _), if_neg (by rw [beq_iff_eq]; omega), if_neg (by rw [decide_eq_true_eq]; omega)]
  · dsimp only
    rw [hc', show ((0 : Int) != 0) = false from rfl, show (c != c) = false from bne_self_eq_false c]
    by_cases i0 : i = 0
    · rw [if_neg (by rw [decide_eq_true_eq]; omega), if_pos (by rw [beq_iff_eq]; omega), if_neg (by decide)]
    · have h3 : left < 3 := by omega
      rw [if_pos (by rw [decide_eq_true_eq]; omega), if_neg (by rw [decide_eq_true_eq]; omega), if_neg (by rw [beq_iff_eq]; omega), if_pos (by rw [decide_eq_true_eq]; omega), if_neg (by decide)]
theorem l5_2_spec {b : List Int} {n : Nat} (hn : n ≤ 2000) {c : Int} (hc : 0 ≤ c ∧ c < 256) (hA : AllC b n c n) {T : List Tok} (hT : T.length ≤ 2000) (e : Int) : ∀ (k i at' : Nat), T.length < i + k → i ≤ T.length → at' ≤ n → (i = 0 ↔ at' = 0) → Toks b at' (T.drop i) →
    loopN g5_2 o5_2 b5_2 k (c, T, e, ((n - at' : Nat) : Int), (i : Int), ()) = some (.inl (e, 0, ())) := by
  intro k
  induction k with
  | zero => intro i at' h1 h2; omega
  | succ k ih =>
    intro i at' h1 h2 h3 h0 h4
    rw [loopN_succ]
    generalize hLL : loopN g5_2 o5_2 b5_2 k = LL at ih ⊢
    unfold b5_2
    dsimp only
    rcases Nat.lt_or_ge i T.length with h | h
    · rw [drop_getD h (0, 0, 0)] at h4
      rw [Int.toNat_natCast]
      generalize hg : T.getD i (0, 0, 0) = t at h4 ⊢
      cases h4 with
      | cons hlt g r =>
        rw [hA.1] at hlt
        have hgood := good_all hA hlt g
        have hlen := r.len
        rw [hA.1] at hlen
        rw [if_pos (by rw [decide_eq_true_eq]; omega), if_pos (by omega), if_pos (by omega), b5_3_eqn hc T e (by
          rcases hgood with ⟨p1, p2, p3⟩ | ⟨p1, p2⟩
          · exact .inl ⟨by omega, p2, p3⟩
          · exact .inr ⟨by omega, p2⟩), Option.bind_some, Sum.elim_inl]
        dsimp only
        rw [if_neg (by decide), Option.bind_some, Sum.elim_inl]
        have w1 : IntKind.wrap .i64 (((n - at' : Nat) : Int) - max t.2.1 1) = ((n - (at' + max t.2.1.toNat 1) : Nat) : Int) := by rw [wrap_i64 (by omega)]; omega
        rw [w1, show IntKind.wrap .i64 ((i : Int) + 1) = ((i + 1 : Nat) : Int) by rw [wrap_i64 (by omega)]; omega]
        exact ih (i + 1) _ (by omega) (by omega) (by omega) (by omega) r
    · rw [List.drop_of_length_le h] at h4
      rw [if_neg (by rw [decide_eq_true_eq]; omega)]
      have hb := hA.1
      cases h4
      rw [hb, Nat.sub_self]
      rfl
theorem AllC.isB {b : List Int} {n : Nat} {c : Int} (h : AllC b n c n) (hc : 0 ≤ c ∧ c < 256) : IsB b := fun x hx => by
  obtain ⟨j, hj, rfl⟩ := List.getElem_of_mem hx
  have := h.2 j (by rw [← h.1]; exact hj)
  rw [List.getD_eq_getElem?_getD, List.getElem?_eq_getElem hj] at this
  have e : b[j] = c := this
  rw [e]; exact hc
theorem deflateRun_pure {c : Int} (hc : 0 ≤ c ∧ c < 256) (n : Int) : f5 (c, n, ()) = some (true, ()) := by
  unfold f5
  dsimp only
  by_cases c1 : n < 0
  · rw [if_pos (decide_eq_true c1)]
  · rw [if_neg (fun h => c1 (of_decide_eq_true h))]
    by_cases c2 : n > 2000
    · rw [if_pos (decide_eq_true c2)]
    · rw [if_neg (fun h => c2 (of_decide_eq_true h)), if_pos (by omega), if_pos (by omega), if_pos (by omega), if_pos (by rw [List.length_replicate])]
      obtain ⟨m, rfl⟩ : ∃ m : Nat, n = (m : Int) := ⟨n.toNat, by omega⟩
      rw [Int.toNat_natCast]
      obtain ⟨b, hA, hr⟩ := l5_1_spec (n := m) (by omega) c 18446744073709551616 0 (List.replicate m 0) (by omega) (by omega) ⟨List.length_replicate, fun j hj => by omega⟩
      have hr' : loopN g5_1 o5_1 b5_1 18446744073709551616 (c, (m : Int), 0, List.replicate m 0, ()) = _ := hr
      rw [show l5_1 = loopN g5_1 o5_1 b5_1 18446744073709551616 from rfl]
      generalize loopN g5_1 o5_1 b5_1 18446744073709551616 (c, (m : Int), 0, List.replicate m 0, ()) = X at hr' ⊢
      subst hr'
      have hbl := hA.1
      obtain ⟨T, t1, t2⟩ := f9_eqn (hA.isB hc) (by omega)
      have hlen := t1.len
      have hq := l5_2_spec (by omega) hc hA (T := T) (by omega) 0 18446744073709551616 0 0 (by omega) (by omega) (by omega) (by omega) (by rw [List.drop_zero]; exact t1)
      have hq' : loopN g5_2 o5_2 b5_2 18446744073709551616 (c, T, 0, (m : Int), 0, ()) = _ := hq
      rw [Option.bind_some, Sum.elim_inl]
      dsimp only
      rw [List.drop_zero, List.take_length, t2, Option.bind_some]
      dsimp only
      rw [List.drop_zero, List.take_length, show l5_2 = loopN g5_2 o5_2 b5_2 18446744073709551616 from rfl]
      generalize loopN g5_2 o5_2 b5_2 18446744073709551616 (c, T, 0, (m : Int), 0, ()) = Y at hq' ⊢
      subst hq'
      rw [Option.bind_some, Sum.elim_inl, awake_true, Option.bind_some]
      rfl
end Go.Ev.Deflate
