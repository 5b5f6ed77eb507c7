/- Part of a proof about the given program: DdC. -/
import Derived.Test.YtjbkmodcnfffiaaDdB
namespace Go.Ev.Deflate
theorem l16_1_same (l : List Tok) (hl : l.length < 2 ^ 60) : ∀ (k i : Nat), l.length < i + k → i ≤ l.length → loopN g16_1 o16_1 b16_1 k (l, l, (i : Int), ()) = some (.inl ()) := by
  intro k
  induction k with
  | zero => intro i h1 h2; omega
  | succ k ih =>
    intro i h1 h2
    rw [loopN_succ]
    generalize hL : loopN g16_1 o16_1 b16_1 k = L at ih ⊢
    unfold b16_1
    dsimp only
    rcases Nat.lt_or_ge i l.length with h | h
    · rw [if_pos (by rw [decide_eq_true_eq]; omega), if_pos (by omega), if_pos (by omega), if_pos (by omega), if_pos (by omega)]
      have e : ∀ t : Tok, allEq ([(t.1, t.1)] ++ ([(t.2.1, t.2.1)] ++ ([(t.2.2, t.2.2)] ++ []))) = true := fun t => by simp [allEq]
      rw [e, if_neg (by decide), Option.bind_some, Sum.elim_inl, show IntKind.wrap .i64 ((i : Int) + 1) = ((i + 1 : Nat) : Int) by rw [wrap_i64 (by omega)]; omega]
      exact ih (i + 1) (by omega) (by omega)
    · rw [if_neg (by rw [decide_eq_true_eq]; omega)]
      rfl
theorem f16_same (l : List Tok) (hl : l.length < 2 ^ 60) : f16 (l, l, ()) = some (true, ()) := by
  have h := l16_1_same l hl FU 0 (by unfold FU; omega) (Nat.zero_le _)
  have h' : loopN g16_1 o16_1 b16_1 FU (l, l, 0, ()) = _ := h
  unfold f16
  dsimp only
  rw [if_neg (by simp), show l16_1 = loopN g16_1 o16_1 b16_1 FU from rfl, h', Option.bind_some, Sum.elim_inl]
end Go.Ev.Deflate
namespace Go.Ev.Deflate
theorem l21_1_spec {b : List Int} (hl : b.length ≤ 10000000) {at' back : Nat} (hat : at' ≤ b.length) (hb : 1 ≤ back ∧ back ≤ at') : ∀ (r k n : Nat), n + r = 258 → r < k →
    loopN g21_1 o21_1 b21_1 k (b, (at' : Int), (back : Int), (n : Int), ()) = some (.inl (((runF b at' back r n : Nat) : Int), ())) := by
  intro r
  induction r with
  | zero =>
    intro k n hn hk
    obtain ⟨k, rfl⟩ : ∃ j, k = j + 1 := ⟨k - 1, by omega⟩
    rw [loopN_succ]
    generalize loopN g21_1 o21_1 b21_1 k = L
    unfold b21_1
    dsimp only
    rw [if_neg (by rw [decide_eq_true_eq]; omega)]
    rfl
  | succ r ih =>
    intro k n hn hk
    obtain ⟨k, rfl⟩ : ∃ j, k = j + 1 := ⟨k - 1, by omega⟩
    have ih := ih k (n + 1) (by omega) (by omega)
    rw [loopN_succ]
    generalize hL : loopN g21_1 o21_1 b21_1 k = L at ih ⊢
    have w1 : IntKind.wrap .i64 ((at' : Int) + (n : Int)) = ((at' + n : Nat) : Int) := by rw [wrap_i64 (by omega)]; omega
    have w2 : IntKind.wrap .i64 (((at' + n : Nat) : Int) - (back : Int)) = ((at' + n - back : Nat) : Int) := by rw [wrap_i64 (by omega)]; omega
    have w3 : IntKind.wrap .i64 ((n : Int) + 1) = ((n + 1 : Nat) : Int) := by rw [wrap_i64 (by omega)]; omega
    unfold b21_1
    dsimp only
    rw [w1, w2, w3]
    rw [if_pos (by rw [decide_eq_true_eq]; omega)]
    unfold runF
    by_cases c1 : at' + n < b.length
    · rw [if_pos (by rw [decide_eq_true_eq]; omega), if_pos (by omega), if_pos (by omega), if_pos (by omega), if_pos (by omega), Int.toNat_natCast, Int.toNat_natCast]
      by_cases c2 : b.getD (at' + n) 0 = b.getD (at' + n - back) 0
      · rw [if_pos (show at' + n < b.length ∧ b.getD (at' + n) 0 = b.getD (at' + n - back) 0 from ⟨c1, c2⟩), if_pos (by rw [beq_iff_eq]; exact c2), Option.bind_some, Sum.elim_inl]
        exact ih
      · rw [if_neg (show ¬ (at' + n < b.length ∧ b.getD (at' + n) 0 = b.getD (at' + n - back) 0) from fun h => c2 h.2), if_neg (by rw [beq_iff_eq]; exact c2)]
        rfl
    · rw [if_neg (by rw [decide_eq_true_eq]; omega), if_neg (fun h => c1 h.1)]
      rfl
theorem f21_eqn {b : List Int} (hl : b.length ≤ 10000000) {at' back : Nat} (hat : at' ≤ b.length) (hb : 1 ≤ back ∧ back ≤ at') : f21 (b, (at' : Int), (back : Int), ()) = some (((runN b at' back : Nat) : Int), ()) := by
  have h := l21_1_spec hl hat hb 258 18446744073709551616 0 rfl (by omega)
  unfold f21
  dsimp only
  have h' : loopN g21_1 o21_1 b21_1 18446744073709551616 (b, (at' : Int), (back : Int), 0, ()) = _ := h
  rw [show l21_1 = loopN g21_1 o21_1 b21_1 18446744073709551616 from rfl]
  generalize loopN g21_1 o21_1 b21_1 18446744073709551616 (b, (at' : Int), (back : Int), 0, ()) = X at h' ⊢
  subst h'
  rfl
theorem l10_2_spec {b : List Int} (hl : b.length ≤ 10000000) {at' : Nat} (hat : at' ≤ b.length) (out : List Tok) : ∀ (k back L K : Nat), 1026 < back + k → 1 ≤ back → back ≤ 1025 →
    ((L = 0 ∧ K = 0) ∨ (1 ≤ K ∧ K < back ∧ K ≤ at' ∧ K ≤ 1024 ∧ L = runN b at' K ∧ 0 < L)) → (∀ j, 1 ≤ j → j < back → j ≤ at' → runN b at' j ≤ L) → (∀ j, 1 ≤ j → j < K → runN b at' j < L) →
    ∃ L' K' : Nat, Best b at' L' K' ∧ loopN g10_2 o10_2 b10_2 k (b, (at' : Int), (L : Int), (K : Int), (back : Int), out, ()) = some (.inl (b, (at' : Int), (L' : Int), (K' : Int), out, ())) := by
  intro k
  induction k with
  | zero => intro back L K h1 h2 h3; omega
  | succ k ih =>
    intro back L K h1 h2 h3 h4 h5 h6
    rw [loopN_succ]
    generalize hLL : loopN g10_2 o10_2 b10_2 k = LL at ih ⊢
    unfold b10_2
    dsimp only
    have w3 : IntKind.wrap .i64 ((back : Int) + 1) = ((back + 1 : Nat) : Int) := by rw [wrap_i64 (by omega)]; omega
    rw [w3]
    by_cases c0 : back ≤ 1024
    · rw [if_pos (by rw [decide_eq_true_eq]; omega)]
      by_cases c1 : back ≤ at'
      · rw [if_pos (by rw [decide_eq_true_eq]; omega), f21_eqn hl hat ⟨h2, c1⟩, Option.bind_some]
        dsimp only
        by_cases c3 : L < runN b at' back
        · rw [if_pos (by rw [decide_eq_true_eq]; omega), if_pos rfl, Option.bind_some, Sum.elim_inl]
          refine ih (back + 1) (runN b at' back) back (by omega) (by omega) (by omega) (.inr ⟨h2, by omega, by omega, by omega, rfl, by omega⟩) (fun j hj1 hj2 hj3 => ?_) (fun j hj1 hj2 => ?_)
          · by_cases e : j = back
            · rw [e]; exact Nat.le_refl _
            · have := h5 j hj1 (by omega) hj3; omega
          · have := h5 j hj1 hj2 (by omega); omega
        · rw [if_neg (by rw [decide_eq_true_eq]; omega), if_pos rfl, Option.bind_some, Sum.elim_inl]
          refine ih (back + 1) L K (by omega) (by omega) (by omega) (h4.imp id (fun h => ⟨h.1, by omega, h.2.2⟩)) (fun j hj1 hj2 hj3 => ?_) h6
          by_cases e : j = back
          · rw [e]; omega
          · exact h5 j hj1 (by omega) hj3
      · rw [if_neg (by rw [decide_eq_true_eq]; omega), if_pos rfl]
        exact ⟨L, K, ⟨h4.imp id (fun h => ⟨h.1, h.2.2⟩), fun j hj1 hj2 _ => h5 j hj1 (by omega) hj2, h6⟩, rfl⟩
    · rw [if_neg (by rw [decide_eq_true_eq]; omega), if_pos rfl]
      exact ⟨L, K, ⟨h4.imp id (fun h => ⟨h.1, h.2.2⟩), fun j hj1 hj2 hj3 => h5 j hj1 (by omega) hj2, h6⟩, rfl⟩
theorem l10_1_spec {b : List Int} (hB : IsB b) (hl : b.length ≤ 10000000) : ∀ (k at' : Nat) (out : List Tok), b.length < at' + k → at' ≤ b.length → out.length ≤ at' →
    ∃ T, Toks b at' T ∧ loopN g10_1 o10_1 b10_1 k (b, (at' : Int), out, ()) = some (.inl (out ++ T, ())) := by
  intro k
  induction k with
  | zero => intro at' out h1 h2; omega
  | succ k ih =>
    intro at' out h1 h2 h3
    rw [loopN_succ]
    generalize hLL : loopN g10_1 o10_1 b10_1 k = LL at ih ⊢
    unfold b10_1
    dsimp only
    rcases Nat.lt_or_ge at' b.length with h | h
    · obtain ⟨L, K, hBst, hrun⟩ := l10_2_spec hl h2 out FU 1 0 0 (by unfold FU; omega) (by omega) (by omega) (.inl ⟨rfl, rfl⟩) (fun j h1 h2 => by omega) (fun j h1 h2 => by omega)
      have hrun' : loopN g10_2 o10_2 b10_2 FU (b, (at' : Int), 0, 0, 1, out, ()) = _ := hrun
      rw [if_pos (by rw [decide_eq_true_eq]; omega), if_pos rfl, show l10_2 = loopN g10_2 o10_2 b10_2 FU from rfl, hrun', Option.bind_some, Sum.elim_inl]
      dsimp only
      have e1 : ∀ v : Tok, List.take 1 (List.drop 0 (List.set (List.replicate 1 ((0 : Int), (0 : Int), (0 : Int))) 0 v)) = [v] := fun v => rfl
      by_cases c : L < 3
      · have hm : b.getD at' 0 ∈ b := by
          rw [List.getD_eq_getElem?_getD, List.getElem?_eq_getElem h]
          exact List.getElem_mem _
        obtain ⟨x0, x1⟩ := hB _ hm
        rw [if_neg (by rw [decide_eq_true_eq]; omega), if_pos (by omega), if_pos (by omega), Int.toNat_natCast, wrap_i64 (n := b.getD at' 0) (by omega), e1, full, if_pos (by simp only [List.length_singleton]; omega), if_pos rfl, Option.bind_some, Sum.elim_inl,
          show IntKind.wrap .i64 ((at' : Int) + 1) = ((at' + 1 : Nat) : Int) by rw [wrap_i64 (by omega)]; omega]
        obtain ⟨T, t1, t2⟩ := ih (at' + 1) (out ++ [(b.getD at' 0, 0, 0)]) (by omega) (by omega) (by simp; omega)
        exact ⟨(b.getD at' 0, 0, 0) :: T, .cons h ⟨L, K, hBst, .inl ⟨c, rfl⟩⟩ t1, by rw [t2, List.append_assoc]; rfl⟩
      · have hfit : at' + L ≤ b.length := by
          rcases hBst.is with ⟨h0, _⟩ | ⟨_, _, _, h0, _⟩
          · omega
          · rw [h0]; exact runN_fit b at' K h2
        rw [if_pos (by rw [decide_eq_true_eq]; omega), e1, full, if_pos (by simp only [List.length_singleton]; omega), if_pos rfl, Option.bind_some, Sum.elim_inl,
          show IntKind.wrap .i64 ((at' : Int) + (L : Int)) = ((at' + max L 1 : Nat) : Int) by rw [wrap_i64 (by omega)]; omega]
        obtain ⟨T, t1, t2⟩ := ih (at' + max L 1) (out ++ [(0, (L : Int), (K : Int))]) (by omega) (by omega) (by simp; omega)
        exact ⟨(0, (L : Int), (K : Int)) :: T, .cons h ⟨L, K, hBst, .inr ⟨by omega, rfl⟩⟩ (by rw [Int.toNat_natCast]; exact t1), by rw [t2, List.append_assoc]; rfl⟩
    · have he : at' = b.length := by omega
      rw [if_neg (by rw [decide_eq_true_eq]; omega), if_pos rfl]
      exact ⟨[], by rw [he]; exact .nil, by rw [List.append_nil]; rfl⟩
theorem f10_eqn {b : List Int} (hB : IsB b) (hl : b.length ≤ 1048576) : ∃ T, Toks b 0 T ∧ f10 (b, ()) = some (0, T, ()) := by
  obtain ⟨T, t1, t2⟩ := l10_1_spec hB (by omega) FU 0 [] (by unfold FU; omega) (by omega) (Nat.zero_le _)
  refine ⟨T, t1, ?_⟩
  rw [List.nil_append] at t2
  unfold f10
  dsimp only
  have t2' : loopN g10_1 o10_1 b10_1 FU (b, 0, [], ()) = _ := t2
  rw [if_neg (by rw [decide_eq_true_eq]; omega), show l10_1 = loopN g10_1 o10_1 b10_1 FU from rfl, t2', Option.bind_some, Sum.elim_inl]
  dsimp only
  rw [if_pos rfl]
theorem Best.same {b : List Int} {at' L K L' K' : Nat} (h : Best b at' L K) (g : Best b at' L' K') : L = L' ∧ K = K' := by
  rcases h.is with ⟨h1, h2⟩ | ⟨h1, h2, h3, h4, h5⟩
  · rcases g.is with ⟨g1, g2⟩ | ⟨g1, g2, g3, g4, g5⟩
    · omega
    · have := h.top K' g1 g2 g3; omega
  · rcases g.is with ⟨g1, g2⟩ | ⟨g1, g2, g3, g4, g5⟩
    · have := g.top K h1 h2 h3; omega
    · have a := h.top K' g1 g2 g3
      have c := g.top K h1 h2 h3
      refine ⟨by omega, ?_⟩
      rcases Nat.lt_trichotomy K K' with e | e | e
      · have := g.near K h1 e; omega
      · exact e
      · have := h.near K' g1 e; omega
theorem Toks.same {b : List Int} {at' : Nat} {T T' : List Tok} (h : Toks b at' T) (g : Toks b at' T') : T = T' := by
  induction h generalizing T' with
  | nil =>
    cases g with
    | nil => rfl
    | cons h _ _ => exact absurd h (Nat.lt_irrefl _)
  | @cons at' t l h gd r ih =>
    cases g with
    | nil => exact absurd h (Nat.lt_irrefl _)
    | @cons _ t' l' h' gd' r' =>
      have e : t = t' := by
        obtain ⟨L, K, gb, hc⟩ := gd
        obtain ⟨L', K', gb', hc'⟩ := gd'
        obtain ⟨rfl, rfl⟩ := gb.same gb'
        rcases hc with ⟨c1, c2⟩ | ⟨c1, c2⟩ <;> rcases hc' with ⟨d1, d2⟩ | ⟨d1, d2⟩
        · rw [c2, d2]
        · omega
        · omega
        · rw [c2, d2]
      subst e
      rw [ih r']
end Go.Ev.Deflate
namespace Go.Ev.Deflate
theorem l59_spec (n : Nat) (hn : n ≤ 24) (l : List Bool) : ∀ (k j v : Nat) (more : List Bool), j ≤ n → n < j + k → v < 9223372036854775808 → more.length = j →
    loopN g59_1 o59_1 b59_1 k ((v : Int), (n : Int), (j : Int), l, more, ()) = some (.inl (((v / 2 ^ (n - j) : Nat) : Int), l, more ++ bitsN v (n - j), ())) := by
  intro k
  induction k with
  | zero => intro j v more h1 h2; omega
  | succ k ih =>
    intro j v more h1 h2 hv hm
    rw [loopN_succ]
    generalize hL : loopN g59_1 o59_1 b59_1 k = L at ih ⊢
    unfold b59_1
    dsimp only
    rcases Nat.lt_or_ge j n with h | h
    · have e1 : ∀ x : Bool, List.take 1 (List.drop 0 (List.set (List.replicate 1 false) 0 x)) = [x] := fun x => rfl
      rw [if_pos (by rw [decide_eq_true_eq]; omega), e1, full, if_pos (by simp only [List.length_singleton]; omega), if_pos rfl, if_pos rfl, tdiv2 hv, wrap_i64 (by omega), tmod2, Option.bind_some, Sum.elim_inl]
      have := ih (j + 1) (v / 2) (more ++ [decide (v % 2 = 1)]) (by omega) (by omega) (by omega) (by simp [hm])
      rw [show n - j = (n - (j + 1)) + 1 by omega]
      simp only [bitsN]
      rw [Nat.pow_succ', ← Nat.div_div_eq_div_mul]
      simp only [List.append_assoc, List.singleton_append] at this
      exact this
    · have e : j = n := by omega
      subst e
      rw [if_neg (by rw [decide_eq_true_eq]; omega), if_pos rfl, if_pos rfl, Nat.sub_self, Nat.pow_zero, Nat.div_one]
      have e0 : bitsN v 0 = [] := rfl
      rw [e0, List.append_nil]
      rfl
theorem f39_eqn {v n : Nat} {l : List Bool} (hn : n ≤ 24) (hv : v < 2 ^ n) (hl : l.length ≤ 1000000) : f39 ((v : Int), (n : Int), l, ()) = some (l ++ bitsN v n, ()) := by
  have hp : (2 : Nat) ^ n ≤ 2 ^ 24 := Nat.pow_le_pow_right (by omega) hn
  have hp' : (2 : Nat) ^ 24 = 16777216 := rfl
  have h := l59_spec n hn l FU 0 v [] (by omega) (by unfold FU; omega) (by omega) rfl
  rw [Nat.sub_zero, Nat.div_eq_of_lt hv] at h
  have h' : loopN g59_1 o59_1 b59_1 FU ((v : Int), (n : Int), 0, l, [], ()) = _ := h
  unfold f39 f59
  dsimp only
  rw [if_pos rfl, if_neg (by rw [decide_eq_true_eq]; omega), if_neg (by rw [decide_eq_true_eq]; omega), if_neg (by rw [decide_eq_true_eq]; omega), if_pos rfl, show l59_1 = loopN g59_1 o59_1 b59_1 FU from rfl, h', Option.bind_some, Sum.elim_inl]
  dsimp only
  rw [if_neg (show ¬ (decide (((0 : Nat) : Int) > 0) = true) by decide), List.nil_append, full l, full (bitsN v n), if_pos (by rw [bitsN_length]; omega), if_pos rfl, Option.bind_some]
  dsimp only
  rw [if_pos rfl]
set_option maxRecDepth 100000 in
theorem f38_all : (List.range 29).map (fun (i : Nat) => f38 (((257 + i : Nat) : Int), ())) = (List.range 29).map (fun (i : Nat) => some (((lenB (257 + i)).1 : Int), ((lenB (257 + i)).2 : Int), ())) := by kernel_rfl
set_option maxRecDepth 100000 in
theorem f40_all : (List.range 30).map (fun (i : Nat) => f40 ((i : Int), ())) = (List.range 30).map (fun (i : Nat) => some (((bkB i).1 : Int), ((bkB i).2 : Int), ())) := by kernel_rfl
theorem map_at {α : Type} {f g : Nat → α} {n : Nat} (h : (List.range n).map f = (List.range n).map g) {i : Nat} (hi : i < n) : f i = g i := by
  have := congrArg (fun l => l[i]?) h
  rw [List.getElem?_map, List.getElem?_map, List.getElem?_range hi] at this
  exact Option.some.inj this
theorem f38_at {i : Nat} (h : i < 29) : f38 (((257 + i : Nat) : Int), ()) = some (((lenB (257 + i)).1 : Int), ((lenB (257 + i)).2 : Int), ()) := map_at f38_all h
theorem f40_at {i : Nat} (h : i < 30) : f40 ((i : Int), ()) = some (((bkB i).1 : Int), ((bkB i).2 : Int), ()) := map_at f40_all h
theorem l12_3_spec (T : List Tok) (x1 : List Int) (x2 : Int) (x6 : List Int) (x7 : List Bool) (tb tl tk : Int) (hv : 3 ≤ tl) : ∀ (k i : Nat), i < k → i < 29 →
    loopN g12_3 o12_3 b12_3 k (T, x1, x2, ((257 + i : Nat) : Int), ((lenB (257 + i)).1 : Int), ((lenB (257 + i)).2 : Int), x6, x7, tb, tl, tk, ()) =
      some (.inl (T, x1, x2, ((257 + pick longT tl i : Nat) : Int), ((lenB (257 + pick longT tl i)).1 : Int), ((lenB (257 + pick longT tl i)).2 : Int), x6, x7, tb, tl, tk, ())) := by
  intro k
  induction k with
  | zero => intro i h; omega
  | succ k ih =>
    intro i h1 h2
    rw [loopN_succ]
    generalize hL : loopN g12_3 o12_3 b12_3 k = L at ih ⊢
    unfold b12_3
    dsimp only
    cases i with
    | zero =>
      have e : (lenB (257 + 0)).1 = 3 := rfl
      rw [if_neg (by rw [decide_eq_true_eq, e]; omega), if_pos rfl, if_pos rfl]
      rfl
    | succ i =>
      have hg := longT_get (i := i + 1) h2
      unfold pick
      rw [hg]
      dsimp only
      by_cases c : ((lenB (257 + (i + 1))).1 : Int) > tl
      · rw [if_pos (decide_eq_true c), if_pos c, show IntKind.wrap .i64 (((257 + (i + 1) : Nat) : Int) - 1) = ((257 + i : Nat) : Int) by rw [wrap_i64 (by omega)]; omega, f38_at (by omega), Option.bind_some]
        dsimp only
        rw [if_pos rfl, if_pos rfl, Option.bind_some, Sum.elim_inl]
        exact ih i (by omega) (by omega)
      · rw [if_neg (fun h => c (of_decide_eq_true h)), if_neg c, if_pos rfl, if_pos rfl]
        rfl
theorem l12_4_spec (T : List Tok) (x1 : List Int) (x2 : Int) (x6 : List Int) (x7 : List Bool) (tb tl tk : Int) (hv : 1 ≤ tk) : ∀ (k i : Nat), i < k → i < 30 →
    loopN g12_4 o12_4 b12_4 k (T, x1, x2, (i : Int), ((bkB i).1 : Int), ((bkB i).2 : Int), x6, x7, tb, tl, tk, ()) =
      some (.inl (T, x1, x2, ((pick behT tk i : Nat) : Int), ((bkB (pick behT tk i)).1 : Int), ((bkB (pick behT tk i)).2 : Int), x6, x7, tb, tl, tk, ())) := by
  intro k
  induction k with
  | zero => intro i h; omega
  | succ k ih =>
    intro i h1 h2
    rw [loopN_succ]
    generalize hL : loopN g12_4 o12_4 b12_4 k = L at ih ⊢
    unfold b12_4
    dsimp only
    cases i with
    | zero =>
      have e : (bkB 0).1 = 1 := rfl
      rw [if_neg (by rw [decide_eq_true_eq, e]; omega), if_pos rfl, if_pos rfl]
      rfl
    | succ i =>
      have hg := behT_get (i := i + 1) h2
      unfold pick
      rw [hg]
      dsimp only
      by_cases c : ((bkB (i + 1)).1 : Int) > tk
      · rw [if_pos (decide_eq_true c), if_pos c, show IntKind.wrap .i64 (((i + 1 : Nat) : Int) - 1) = ((i : Nat) : Int) by rw [wrap_i64 (by omega)]; omega, f40_at (by omega), Option.bind_some]
        dsimp only
        rw [if_pos rfl, if_pos rfl, Option.bind_some, Sum.elim_inl]
        exact ih i (by omega) (by omega)
      · rw [if_neg (fun h => c (of_decide_eq_true h)), if_neg c, if_pos rfl, if_pos rfl]
        rfl
theorem l12_2_spec {T : List Tok} (hTl : T.length ≤ 3000) : ∀ (k i : Nat) (out : List Bool), T.length < i + k → i ≤ T.length → out.length + 32 * (T.length - i) ≤ 100000 →
    loopN g12_2 o12_2 b12_2 k (T, fixL, (i : Int), fixD, out, ()) = if (T.drop i).all isT = true then some (.inl (fixL, out ++ toksB (T.drop i), ())) else some (.inr (.inl ([], 1, ()))) := by
  intro k
  induction k with
  | zero => intro i out h1 h2; omega
  | succ k ih =>
    intro i out h1 h2 h3
    rw [loopN_succ]
    generalize hL : loopN g12_2 o12_2 b12_2 k = L at ih ⊢
    unfold b12_2
    dsimp only
    rcases Nat.lt_or_ge i T.length with h | h
    · rw [drop_getD h (0, 0, 0), if_pos (by rw [decide_eq_true_eq]; omega), if_pos (by omega), if_pos (by omega), Int.toNat_natCast]
      generalize T.getD i (0, 0, 0) = t
      have e1 : toksB (t :: T.drop (i + 1)) = tokB t ++ toksB (T.drop (i + 1)) := by unfold toksB; rw [List.flatMap_cons]
      rw [e1, List.all_cons]
      obtain ⟨tb, tl, tk⟩ := t
      dsimp only
      rw [f36_eqn, Option.bind_some]
      dsimp only
      have wi : IntKind.wrap .i64 ((i : Int) + 1) = ((i + 1 : Nat) : Int) := by rw [wrap_i64 (by omega)]; omega
      cases hm : isT (tb, tl, tk) with
      | false =>
        rw [if_pos (by decide), if_neg (by rw [Bool.false_and]; decide)]
        rfl
      | true =>
        rw [if_neg (by decide), Bool.true_and, ← List.append_assoc]
        have hlen := tokB_len hm
        rw [isT_iff] at hm
        dsimp only at hm
        by_cases c : tl = 0
        · have hsmall := hlen.2 c
          have e2 : tokB (tb, tl, tk) = word fixL tb := by unfold tokB; rw [if_pos c]
          rw [e2] at hsmall ⊢
          rw [if_pos (show (tl == 0) = true from beq_iff_eq.2 c), f37_eqn (err_of errM_fixL), Option.bind_some]
          dsimp only
          rw [full out, full (word fixL tb), if_pos (by omega), if_pos rfl, if_pos rfl, Option.bind_some, Sum.elim_inl, wi]
          exact ih (i + 1) _ (by omega) (by omega) (by rw [List.length_append]; omega)
        · obtain ⟨v, rfl⟩ : ∃ v : Nat, tl = (v : Int) := ⟨tl.toNat, by omega⟩
          obtain ⟨u, rfl⟩ : ∃ v : Nat, tk = (v : Int) := ⟨tk.toNat, by omega⟩
          have hsmall := hlen.1
          have e2 : tokB (tb, (v : Int), (u : Int)) = (word fixL ((lsg (v : Int) : Nat) : Int) ++ bitsN (v - (lenB (lsg (v : Int))).1) (lenB (lsg (v : Int))).2) ++ (word fixD ((bsg (u : Int) : Nat) : Int) ++ bitsN (u - (bkB (bsg (u : Int))).1) (bkB (bsg (u : Int))).2) := by
            unfold tokB
            rw [if_neg c]
            dsimp only
            rw [Int.toNat_natCast, Int.toNat_natCast]
          obtain ⟨g1, g2, g3, g4⟩ := lsg_ok (v := v) (by omega) (by omega)
          obtain ⟨k1, k3, k4⟩ := bsg_ok (v := u) (by omega) (by omega)
          have gl := (lenB_lim g1 g2).2.2
          have gk := (bkB_lim k1).2.2
          have h28 : f38 (285, ()) = some (((lenB (257 + 28)).1 : Int), ((lenB (257 + 28)).2 : Int), ()) := f38_at (i := 28) (by omega)
          have h29 : f40 (29, ()) = some (((bkB 29).1 : Int), ((bkB 29).2 : Int), ()) := f40_at (i := 29) (by omega)
          have r3 := l12_3_spec T fixL (i : Int) fixD out tb (v : Int) (u : Int) (by omega) FU 28 (by unfold FU; omega) (by omega)
          have r3' : loopN g12_3 o12_3 b12_3 FU (T, fixL, (i : Int), 285, ((lenB (257 + 28)).1 : Int), ((lenB (257 + 28)).2 : Int), fixD, out, tb, (v : Int), (u : Int), ()) = some (.inl (T, fixL, (i : Int), ((lsg (v : Int) : Nat) : Int), ((lenB (lsg (v : Int))).1 : Int), ((lenB (lsg (v : Int))).2 : Int), fixD, out, tb, (v : Int), (u : Int), ())) := r3
          have r4 := fun o => l12_4_spec T fixL (i : Int) fixD o tb (v : Int) (u : Int) (by omega) FU 29 (by unfold FU; omega) (by omega)
          have r4' : ∀ o, loopN g12_4 o12_4 b12_4 FU (T, fixL, (i : Int), 29, ((bkB 29).1 : Int), ((bkB 29).2 : Int), fixD, o, tb, (v : Int), (u : Int), ()) = some (.inl (T, fixL, (i : Int), ((bsg (u : Int) : Nat) : Int), ((bkB (bsg (u : Int))).1 : Int), ((bkB (bsg (u : Int))).2 : Int), fixD, o, tb, (v : Int), (u : Int), ())) := r4
          rw [e2] at hsmall ⊢
          generalize lsg (v : Int) = s at g1 g2 g3 g4 gl hsmall r3' ⊢
          generalize bsg (u : Int) = d at k1 k3 k4 gk hsmall r4' ⊢
          rw [List.length_append, List.length_append, List.length_append, bitsN_length, bitsN_length] at hsmall
          have w1 : IntKind.wrap .i64 ((v : Int) - ((lenB s).1 : Int)) = ((v - (lenB s).1 : Nat) : Int) := by rw [wrap_i64 (by omega)]; omega
          have w2 : IntKind.wrap .i64 ((u : Int) - ((bkB d).1 : Int)) = ((u - (bkB d).1 : Nat) : Int) := by rw [wrap_i64 (by omega)]; omega
          rw [if_neg (show ¬ (((v : Int) == 0) = true) from fun h => c (beq_iff_eq.1 h)), h28, Option.bind_some]
          dsimp only
          rw [if_pos rfl, if_pos rfl, show l12_3 = loopN g12_3 o12_3 b12_3 FU from rfl, r3', Option.bind_some, Sum.elim_inl]
          dsimp only
          rw [f37_eqn (err_of errM_fixL), Option.bind_some]
          dsimp only
          generalize word fixL (s : Int) = W at hsmall ⊢
          rw [full out, full W]
          rw [if_pos (by omega)]
          rw [if_pos rfl]
          rw [w1, f39_eqn (by omega) (by omega) (by rw [List.length_append]; omega), Option.bind_some, h29, Option.bind_some]
          dsimp only
          rw [if_pos rfl, if_pos rfl, show l12_4 = loopN g12_4 o12_4 b12_4 FU from rfl, r4', Option.bind_some, Sum.elim_inl]
          dsimp only
          have efd : List.take fixD.length (List.drop 0 fixD) = fixD := full fixD
          rw [efd, f37_eqn (l := fixD) (err_of errM_fixD), Option.bind_some]
          dsimp only
          generalize word fixD (d : Int) = W2 at hsmall ⊢
          rw [full (out ++ W ++ bitsN (v - (lenB s).1) (lenB s).2), full W2, if_pos (by rw [List.length_append, List.length_append, bitsN_length]; omega), if_pos rfl, w2, f39_eqn (by omega) (by omega) (by rw [List.length_append, List.length_append, List.length_append, bitsN_length]; omega), Option.bind_some]
          dsimp only
          rw [if_pos rfl, if_pos rfl, Option.bind_some, Sum.elim_inl, wi]
          have e5 : out ++ W ++ bitsN (v - (lenB s).1) (lenB s).2 ++ W2 ++ bitsN (u - (bkB d).1) (bkB d).2 = out ++ (W ++ bitsN (v - (lenB s).1) (lenB s).2 ++ (W2 ++ bitsN (u - (bkB d).1) (bkB d).2)) := by simp only [List.append_assoc]
          rw [e5]
          exact ih (i + 1) _ (by omega) (by omega) (by rw [List.length_append, List.length_append, List.length_append, List.length_append, bitsN_length, bitsN_length]; omega)
    · rw [List.drop_of_length_le h, if_neg (by rw [decide_eq_true_eq]; omega), if_pos rfl]
      have e0 : toksB ([] : List Tok) = [] := rfl
      rw [e0, List.append_nil]
      rfl
theorem l12_1_spec (T : List Tok) : ∀ (k i : Nat), i ≤ 30 → 30 < i + k → loopN g12_1 o12_1 b12_1 k (T, (i : Int), List.replicate i 5, ()) = some (.inl (T, List.replicate 30 5, ())) := by
  intro k
  induction k with
  | zero => intro i h1 h2; omega
  | succ k ih =>
    intro i h1 h2
    rw [loopN_succ]
    generalize hL : loopN g12_1 o12_1 b12_1 k = L at ih ⊢
    unfold b12_1
    dsimp only
    rcases Nat.lt_or_ge i 30 with h | h
    · have e1 : List.take 1 (List.drop 0 (List.set (List.replicate 1 (0 : Int)) 0 5)) = [5] := rfl
      have e2 : List.replicate i (5 : Int) ++ [5] = List.replicate (i + 1) 5 := by rw [List.replicate_succ']
      rw [if_pos (by rw [decide_eq_true_eq]; omega), e1, full, if_pos (by rw [List.length_replicate]; omega), if_pos rfl, e2, Option.bind_some, Sum.elim_inl, show IntKind.wrap .i64 ((i : Int) + 1) = ((i + 1 : Nat) : Int) by rw [wrap_i64 (by omega)]; omega]
      exact ih (i + 1) (by omega) (by omega)
    · have e : i = 30 := by omega
      subst e
      rw [if_neg (show ¬ (decide (((30 : Nat) : Int) < 30) = true) by decide), if_pos rfl]
      rfl
set_option maxRecDepth 100000 in
theorem f35_fix : f35 () = some (fixL, ()) := by kernel_rfl
theorem f12_head (T : List Tok) (hTl : T.length ≤ 3000) : f12 (T, ()) = if T.all isT = true then Option.bind (f41 (putB T, ())) (fun y5 => some (List.take y5.1.length (List.drop 0 y5.1), 0, ())) else some ([], 1, ()) := by
  have h1 := l12_1_spec T FU 0 (by omega) (by unfold FU; omega)
  have h1' : loopN g12_1 o12_1 b12_1 FU (T, 0, [], ()) = _ := h1
  have h2 := l12_2_spec hTl FU 0 [true, true, false] (by unfold FU; omega) (Nat.zero_le _) (by rw [Nat.sub_zero]; show 3 + _ ≤ _; omega)
  rw [List.drop_zero] at h2
  have h2' : loopN g12_2 o12_2 b12_2 FU (T, fixL, 0, fixD, [true, true, false], ()) = _ := h2
  have e2 : List.take 2 (List.drop 0 (List.set (List.set (List.replicate 2 (0 : Int)) 0 5) 1 5)) = [5, 5] := rfl
  have e3 : List.replicate 30 (5 : Int) ++ [5, 5] = fixD := rfl
  have e4 : List.set (List.set (List.set (List.replicate 3 false) 0 true) 1 true) 2 false = [true, true, false] := rfl
  unfold f12
  dsimp only
  rw [show l12_1 = loopN g12_1 o12_1 b12_1 FU from rfl, h1', Option.bind_some, Sum.elim_inl]
  dsimp only
  rw [e2, full, if_pos (by rw [List.length_replicate]; decide), f35_fix, Option.bind_some]
  dsimp only
  rw [if_pos rfl, e3, e4, full, show l12_2 = loopN g12_2 o12_2 b12_2 FU from rfl, h2']
  cases hT : T.all isT with
  | false => rw [if_neg (by decide), if_neg (by decide), Option.bind_some, Sum.elim_inr, Sum.elim_inl]
  | true =>
    have htl := toksB_len hT
    have hlw := wordL_len 256
    have hpb : [true, true, false] ++ toksB T ++ word fixL 256 = putB T := by unfold putB; rw [List.append_assoc]
    rw [if_pos rfl, if_pos rfl, Option.bind_some, Sum.elim_inl]
    dsimp only
    rw [f37_eqn (err_of errM_fixL), Option.bind_some]
    dsimp only
    generalize word fixL 256 = W at hlw hpb ⊢
    rw [full ([true, true, false] ++ toksB T), full W, hpb]
    rw [full (putB T)]
    rw [if_pos (by rw [List.length_append]; show 3 + _ + _ ≤ _; omega)]
theorem f12_good {T : List Tok} (hT : T.all isT = true) (hTl : T.length ≤ 3000) {B : List Int} (h : Blk T B) : f12 (T, ()) = some (B, 0, ()) := by
  obtain ⟨B', r1, r2, r3, r4⟩ := f41_spec (putB T) (by have := h.lim; omega)
  have e : B' = B := valB_inj r2 h.b (by rw [r3, h.len]) (by rw [r4, h.val])
  rw [f12_head T hTl, if_pos hT, r1, Option.bind_some]
  dsimp only
  rw [full, e]
theorem f12_bad {T : List Tok} (hT : T.all isT = false) (hTl : T.length ≤ 3000) : f12 (T, ()) = some ([], 1, ()) := by
  rw [f12_head T hTl, if_neg (by rw [hT]; decide)]
theorem f8_eqn {b : List Int} (hl : b.length ≤ 140737488355328) : f8 (b, ()) = some (b, ()) := by
  unfold f8
  dsimp only
  rw [if_pos (by omega), if_pos (.inr ⟨rfl, rfl⟩), List.nil_append, if_pos rfl]
theorem deflateDoes_pure {x0 : List Int} (hB : IsB x0) (x1 : List Tok) : f3 (x0, x1, ()) = some (true, ()) := by
  unfold f3
  dsimp only
  by_cases c1 : ((x0.length : Nat) : Int) > 300
  · rw [if_pos (decide_eq_true c1)]
  rw [if_neg (fun h => c1 (of_decide_eq_true h))]
  by_cases c2 : ((x1.length : Nat) : Int) > 60
  · rw [if_pos (decide_eq_true c2)]
  rw [if_neg (fun h => c2 (of_decide_eq_true h))]
  have hl0 : x0.length ≤ 300 := by omega
  have hl1 : x1.length ≤ 60 := by omega
  obtain ⟨T, B, h1, h2, h3, h4, h5, hT, hTl⟩ := deflate_eqn hB (by omega)
  obtain ⟨T', g1, g2⟩ := f10_eqn hB (by omega)
  have eT := h1.same g1
  subst eT
  have h14 : f14 (x0, ()) = some (B, 0, ()) := by
    unfold f14
    dsimp only
    rw [g2, Option.bind_some]
    dsimp only
    rw [if_neg (by decide), full, f12_good hT hTl h5, Option.bind_some]
  have hput : ∃ P e, f11 (x1, ()) = some (e, P, ()) ∧ f12 (x1, ()) = some (P, e, ()) := by
    cases hx : x1.all isT with
    | false => exact ⟨[], 1, f11_bad hx (by omega), f12_bad hx (by omega)⟩
    | true =>
      obtain ⟨P, p1, p2⟩ := f11_good hx (by omega)
      exact ⟨P, 0, p1, f12_good hx (by omega) p2⟩
  obtain ⟨P, e, p1, p2⟩ := hput
  rw [f8_eqn (by omega), Option.bind_some]
  dsimp only
  simp only [full]
  rw [h2, Option.bind_some, g2, Option.bind_some, p1, Option.bind_some, p2, Option.bind_some, h4, Option.bind_some, h14, Option.bind_some, awake_true, Option.bind_some]
  simp only
  rw [if_pos trivial, if_pos (beq_self_eq_true _), f16_same T (by omega), Option.bind_some]
  dsimp only
  rw [if_pos rfl, if_pos (show ((0 : Int) == 0) = true from rfl), if_pos (beq_self_eq_true _), if_pos (show (e == e) = true from beq_self_eq_true e), if_pos (beq_self_eq_true _)]
  rfl
end Go.Ev.Deflate
