/- Part of a proof about the given program: YrC. -/
import Derived.Test.YtaofodieeepobaaYrB
import Derived.Test.YtaofodieeepobaaBig
import Derived.Test.YtaofodieeepobaaZR
import Derived.KernelRfl
import Derived.Test.YtaofodieeepobaaStr
namespace Go.Ev.Zlib
theorem l42_1_spec {b : List Int} (hl : b.length ≤ 10000000) {at' back : Nat} (hat : at' ≤ b.length) (hb : 1 ≤ back ∧ back ≤ at') : ∀ (r k n : Nat), n + r = 258 → r < k →
    loopN g42_1 o42_1 b42_1 k (b, (at' : Int), (back : Int), (n : Int), ()) = some (.inl (((runF b at' back r n : Nat) : Int), ())) := by
  intro r
  induction r with
  | zero =>
    intro k n hn hk
    obtain ⟨k, rfl⟩ : ∃ j, k = j + 1 := ⟨k - 1, by omega⟩
    rw [loopN_succ]
    generalize loopN g42_1 o42_1 b42_1 k = L
    unfold b42_1
    dsimp only
    rw [if_neg (by rw [decide_eq_true_eq]; omega)]
    rfl
  | succ r ih =>
    intro k n hn hk
    obtain ⟨k, rfl⟩ : ∃ j, k = j + 1 := ⟨k - 1, by omega⟩
    have ih := ih k (n + 1) (by omega) (by omega)
    rw [loopN_succ]
    generalize hL : loopN g42_1 o42_1 b42_1 k = L at ih ⊢
    have w1 : IntKind.wrap .i64 ((at' : Int) + (n : Int)) = ((at' + n : Nat) : Int) := by rw [wrap_i64 (by omega)]; omega
    have w2 : IntKind.wrap .i64 (((at' + n : Nat) : Int) - (back : Int)) = ((at' + n - back : Nat) : Int) := by rw [wrap_i64 (by omega)]; omega
    have w3 : IntKind.wrap .i64 ((n : Int) + 1) = ((n + 1 : Nat) : Int) := by rw [wrap_i64 (by omega)]; omega
    unfold b42_1
    dsimp only
    rw [w1, w2, w3]
    rw [if_pos (by rw [decide_eq_true_eq]; omega)]
    unfold runF
    by_cases c1 : at' + n < b.length
    · rw [if_pos (by rw [decide_eq_true_eq]; omega), if_pos (by omega), if_pos (by omega), if_pos (by omega), if_pos (by omega), Int.toNat_natCast, Int.toNat_natCast]
      by_cases c2 : b.getD (at' + n) 0 = b.getD (at' + n - back) 0
      · rw [if_pos (show at' + n < b.length ∧ b.getD (at' + n) 0 = b.getD (at' + n - back) 0 from ⟨c1, c2⟩), if_pos (by rw [beq_iff_eq]; exact c2), Option.bind_some, Sum.elim_inl]
        exact ih
      · rw [if_neg (show ¬ (at' + n < b.length ∧ b.getD (at' + n) 0 = b.getD (at' + n - back) 0) from fun h => c2 h.2), if_neg (by rw [beq_iff_eq]; exact c2)]
        rfl
    · rw [if_neg (by rw [decide_eq_true_eq]; omega), if_neg (fun h => c1 h.1)]
      rfl
theorem f42_eqn {b : List Int} (hl : b.length ≤ 10000000) {at' back : Nat} (hat : at' ≤ b.length) (hb : 1 ≤ back ∧ back ≤ at') : f42 (b, (at' : Int), (back : Int), ()) = some (((runN b at' back : Nat) : Int), ()) := by
  have h := l42_1_spec hl hat hb 258 18446744073709551616 0 rfl (by omega)
  unfold f42
  dsimp only
  have h' : loopN g42_1 o42_1 b42_1 18446744073709551616 (b, (at' : Int), (back : Int), 0, ()) = _ := h
  rw [show l42_1 = loopN g42_1 o42_1 b42_1 18446744073709551616 from rfl]
  generalize loopN g42_1 o42_1 b42_1 18446744073709551616 (b, (at' : Int), (back : Int), 0, ()) = X at h' ⊢
  subst h'
  rfl
theorem l22_2_spec {b : List Int} (hl : b.length ≤ 10000000) {at' : Nat} (hat : at' ≤ b.length) (out : List Tok) : ∀ (k back L K : Nat), 1026 < back + k → 1 ≤ back → back ≤ 1025 →
    ((L = 0 ∧ K = 0) ∨ (1 ≤ K ∧ K < back ∧ K ≤ at' ∧ K ≤ 1024 ∧ L = runN b at' K ∧ 0 < L)) → (∀ j, 1 ≤ j → j < back → j ≤ at' → runN b at' j ≤ L) → (∀ j, 1 ≤ j → j < K → runN b at' j < L) →
    ∃ L' K' : Nat, Best b at' L' K' ∧ loopN g22_2 o22_2 b22_2 k (b, (at' : Int), (L : Int), (K : Int), (back : Int), out, ()) = some (.inl (b, (at' : Int), (L' : Int), (K' : Int), out, ())) := by
  intro k
  induction k with
  | zero => intro back L K h1 h2 h3; omega
  | succ k ih =>
    intro back L K h1 h2 h3 h4 h5 h6
    rw [loopN_succ]
    generalize hLL : loopN g22_2 o22_2 b22_2 k = LL at ih ⊢
    unfold b22_2
    dsimp only
    have w3 : IntKind.wrap .i64 ((back : Int) + 1) = ((back + 1 : Nat) : Int) := by rw [wrap_i64 (by omega)]; omega
    rw [w3]
    by_cases c0 : back ≤ 1024
    · rw [if_pos (by rw [decide_eq_true_eq]; omega)]
      by_cases c1 : back ≤ at'
      · rw [if_pos (by rw [decide_eq_true_eq]; omega), f42_eqn hl hat ⟨h2, c1⟩, Option.bind_some]
        dsimp only
        by_cases c3 : L < runN b at' back
        · rw [if_pos (by rw [decide_eq_true_eq]; omega), if_pos rfl, Option.bind_some, Sum.elim_inl]
          refine ih (back + 1) (runN b at' back) back (by omega) (by omega) (by omega) (.inr ⟨h2, by omega, by omega, by omega, rfl, by omega⟩) (fun j hj1 hj2 hj3 => ?_) (fun j hj1 hj2 => ?_)
          · by_cases e : j = back
            · rw [e]; exact Nat.le_refl _
            · have := h5 j hj1 (by omega) hj3; omega
          · have := h5 j hj1 hj2 (by omega); omega
        · rw [if_neg (by rw [decide_eq_true_eq]; omega), if_pos rfl, Option.bind_some, Sum.elim_inl]
          refine ih (back + 1) L K (by omega) (by omega) (by omega) (h4.imp id (fun h => ⟨h.1, by omega, h.2.2⟩)) (fun j hj1 hj2 hj3 => ?_) h6
          by_cases e : j = back
          · rw [e]; omega
          · exact h5 j hj1 (by omega) hj3
      · rw [if_neg (by rw [decide_eq_true_eq]; omega), if_pos rfl]
        exact ⟨L, K, ⟨h4.imp id (fun h => ⟨h.1, h.2.2⟩), fun j hj1 hj2 _ => h5 j hj1 (by omega) hj2, h6⟩, rfl⟩
    · rw [if_neg (by rw [decide_eq_true_eq]; omega), if_pos rfl]
      exact ⟨L, K, ⟨h4.imp id (fun h => ⟨h.1, h.2.2⟩), fun j hj1 hj2 hj3 => h5 j hj1 (by omega) hj2, h6⟩, rfl⟩
theorem l22_1_spec {b : List Int} (hB : IsB b) (hl : b.length ≤ 10000000) : ∀ (k at' : Nat) (out : List Tok), b.length < at' + k → at' ≤ b.length → out.length ≤ at' →
    ∃ T, Toks b at' T ∧ loopN g22_1 o22_1 b22_1 k (b, (at' : Int), out, ()) = some (.inl (out ++ T, ())) := by
  intro k
  induction k with
  | zero => intro at' out h1 h2; omega
  | succ k ih =>
    intro at' out h1 h2 h3
    rw [loopN_succ]
    generalize hLL : loopN g22_1 o22_1 b22_1 k = LL at ih ⊢
    unfold b22_1
    dsimp only
    rcases Nat.lt_or_ge at' b.length with h | h
    · obtain ⟨L, K, hBst, hrun⟩ := l22_2_spec hl h2 out FU 1 0 0 (by unfold FU; omega) (by omega) (by omega) (.inl ⟨rfl, rfl⟩) (fun j h1 h2 => by omega) (fun j h1 h2 => by omega)
      have hrun' : loopN g22_2 o22_2 b22_2 FU (b, (at' : Int), 0, 0, 1, out, ()) = _ := hrun
      rw [if_pos (by rw [decide_eq_true_eq]; omega), if_pos rfl, show l22_2 = loopN g22_2 o22_2 b22_2 FU from rfl, hrun', Option.bind_some, Sum.elim_inl]
      dsimp only
      have e1 : ∀ v : Tok, List.take 1 (List.drop 0 (List.set (List.replicate 1 ((0 : Int), (0 : Int), (0 : Int))) 0 v)) = [v] := fun v => rfl
      by_cases c : L < 3
      · have hm : b.getD at' 0 ∈ b := by
          rw [List.getD_eq_getElem?_getD, List.getElem?_eq_getElem h]
          exact List.getElem_mem _
        obtain ⟨x0, x1⟩ := hB _ hm
        rw [if_neg (by rw [decide_eq_true_eq]; omega), if_pos (by omega), if_pos (by omega), Int.toNat_natCast, wrap_i64 (n := b.getD at' 0) (by omega), e1, full, if_pos (by simp only [List.length_singleton]; omega), if_pos rfl, Option.bind_some, Sum.elim_inl,
          show IntKind.wrap .i64 ((at' : Int) + 1) = ((at' + 1 : Nat) : Int) by rw [wrap_i64 (by omega)]; omega]
        obtain ⟨T, t1, t2⟩ := ih (at' + 1) (out ++ [(b.getD at' 0, 0, 0)]) (by omega) (by omega) (by simp; omega)
        exact ⟨(b.getD at' 0, 0, 0) :: T, .cons h ⟨L, K, hBst, .inl ⟨c, rfl⟩⟩ t1, by rw [t2, List.append_assoc]; rfl⟩
      · have hfit : at' + L ≤ b.length := by
          rcases hBst.is with ⟨h0, _⟩ | ⟨_, _, _, h0, _⟩
          · omega
          · rw [h0]; exact runN_fit b at' K h2
        rw [if_pos (by rw [decide_eq_true_eq]; omega), e1, full, if_pos (by simp only [List.length_singleton]; omega), if_pos rfl, Option.bind_some, Sum.elim_inl,
          show IntKind.wrap .i64 ((at' : Int) + (L : Int)) = ((at' + max L 1 : Nat) : Int) by rw [wrap_i64 (by omega)]; omega]
        obtain ⟨T, t1, t2⟩ := ih (at' + max L 1) (out ++ [(0, (L : Int), (K : Int))]) (by omega) (by omega) (by simp; omega)
        exact ⟨(0, (L : Int), (K : Int)) :: T, .cons h ⟨L, K, hBst, .inr ⟨by omega, rfl⟩⟩ (by rw [Int.toNat_natCast]; exact t1), by rw [t2, List.append_assoc]; rfl⟩
    · have he : at' = b.length := by omega
      rw [if_neg (by rw [decide_eq_true_eq]; omega), if_pos rfl]
      exact ⟨[], by rw [he]; exact .nil, by rw [List.append_nil]; rfl⟩
theorem f22_eqn {b : List Int} (hB : IsB b) (hl : b.length ≤ 1048576) : ∃ T, Toks b 0 T ∧ f22 (b, ()) = some (0, T, ()) := by
  obtain ⟨T, t1, t2⟩ := l22_1_spec hB (by omega) FU 0 [] (by unfold FU; omega) (by omega) (Nat.zero_le _)
  refine ⟨T, t1, ?_⟩
  rw [List.nil_append] at t2
  unfold f22
  dsimp only
  have t2' : loopN g22_1 o22_1 b22_1 FU (b, 0, [], ()) = _ := t2
  rw [if_neg (by rw [decide_eq_true_eq]; omega), show l22_1 = loopN g22_1 o22_1 b22_1 FU from rfl, t2', Option.bind_some, Sum.elim_inl]
  dsimp only
  rw [if_pos rfl]
theorem Best.same {b : List Int} {at' L K L' K' : Nat} (h : Best b at' L K) (g : Best b at' L' K') : L = L' ∧ K = K' := by
  rcases h.is with ⟨h1, h2⟩ | ⟨h1, h2, h3, h4, h5⟩
  · rcases g.is with ⟨g1, g2⟩ | ⟨g1, g2, g3, g4, g5⟩
    · omega
    · have := h.top K' g1 g2 g3; omega
  · rcases g.is with ⟨g1, g2⟩ | ⟨g1, g2, g3, g4, g5⟩
    · have := g.top K h1 h2 h3; omega
    · have a := h.top K' g1 g2 g3
      have c := g.top K h1 h2 h3
      refine ⟨by omega, ?_⟩
      rcases Nat.lt_trichotomy K K' with e | e | e
      · have := g.near K h1 e; omega
      · exact e
      · have := h.near K' g1 e; omega
theorem Toks.same {b : List Int} {at' : Nat} {T T' : List Tok} (h : Toks b at' T) (g : Toks b at' T') : T = T' := by
  induction h generalizing T' with
  | nil =>
    cases g with
    | nil => rfl
    | cons h _ _ => exact absurd h (Nat.lt_irrefl _)
  | @cons at' t l h gd r ih =>
    cases g with
    | nil => exact absurd h (Nat.lt_irrefl _)
    | @cons _ t' l' h' gd' r' =>
      have e : t = t' := by
        obtain ⟨L, K, gb, hc⟩ := gd
        obtain ⟨L', K', gb', hc'⟩ := gd'
        obtain ⟨rfl, rfl⟩ := gb.same gb'
        rcases hc with ⟨c1, c2⟩ | ⟨c1, c2⟩ <;> rcases hc' with ⟨d1, d2⟩ | ⟨d1, d2⟩
        · rw [c2, d2]
        · omega
        · omega
        · rw [c2, d2]
      subst e
      rw [ih r']
end Go.Ev.Zlib
namespace Go.Ev.Zlib
theorem l70_spec (n : Nat) (hn : n ≤ 24) (l : List Bool) : ∀ (k j v : Nat) (more : List Bool), j ≤ n → n < j + k → v < 9223372036854775808 → more.length = j →
    loopN g70_1 o70_1 b70_1 k ((v : Int), (n : Int), (j : Int), l, more, ()) = some (.inl (((v / 2 ^ (n - j) : Nat) : Int), l, more ++ bitsN v (n - j), ())) := by
  intro k
  induction k with
  | zero => intro j v more h1 h2; omega
  | succ k ih =>
    intro j v more h1 h2 hv hm
    rw [loopN_succ]
    generalize hL : loopN g70_1 o70_1 b70_1 k = L at ih ⊢
    unfold b70_1
    dsimp only
    rcases Nat.lt_or_ge j n with h | h
    · have e1 : ∀ x : Bool, List.take 1 (List.drop 0 (List.set (List.replicate 1 false) 0 x)) = [x] := fun x => rfl
      rw [if_pos (by rw [decide_eq_true_eq]; omega), e1, full, if_pos (by simp only [List.length_singleton]; omega), if_pos rfl, if_pos rfl, tdiv2 hv, wrap_i64 (by omega), tmod2, Option.bind_some, Sum.elim_inl]
      have := ih (j + 1) (v / 2) (more ++ [decide (v % 2 = 1)]) (by omega) (by omega) (by omega) (by simp [hm])
      rw [show n - j = (n - (j + 1)) + 1 by omega]
      simp only [bitsN]
      rw [Nat.pow_succ', ← Nat.div_div_eq_div_mul]
      simp only [List.append_assoc, List.singleton_append] at this
      exact this
    · have e : j = n := by omega
      subst e
      rw [if_neg (by rw [decide_eq_true_eq]; omega), if_pos rfl, if_pos rfl, Nat.sub_self, Nat.pow_zero, Nat.div_one]
      have e0 : bitsN v 0 = [] := rfl
      rw [e0, List.append_nil]
      rfl
theorem f47_eqn {v n : Nat} {l : List Bool} (hn : n ≤ 24) (hv : v < 2 ^ n) (hl : l.length ≤ 1000000) : f47 ((v : Int), (n : Int), l, ()) = some (l ++ bitsN v n, ()) := by
  have hp : (2 : Nat) ^ n ≤ 2 ^ 24 := Nat.pow_le_pow_right (by omega) hn
  have hp' : (2 : Nat) ^ 24 = 16777216 := rfl
  have h := l70_spec n hn l FU 0 v [] (by omega) (by unfold FU; omega) (by omega) rfl
  rw [Nat.sub_zero, Nat.div_eq_of_lt hv] at h
  have h' : loopN g70_1 o70_1 b70_1 FU ((v : Int), (n : Int), 0, l, [], ()) = _ := h
  unfold f47 f70
  dsimp only
  rw [if_pos rfl, if_neg (by rw [decide_eq_true_eq]; omega), if_neg (by rw [decide_eq_true_eq]; omega), if_neg (by rw [decide_eq_true_eq]; omega), if_pos rfl, show l70_1 = loopN g70_1 o70_1 b70_1 FU from rfl, h', Option.bind_some, Sum.elim_inl]
  dsimp only
  rw [if_neg (show ¬ (decide (((0 : Nat) : Int) > 0) = true) by decide), List.nil_append, full l, full (bitsN v n), if_pos (by rw [bitsN_length]; omega), if_pos rfl, Option.bind_some]
  dsimp only
  rw [if_pos rfl]
set_option maxRecDepth 100000 in
theorem f46_all : (List.range 29).map (fun (i : Nat) => f46 (((257 + i : Nat) : Int), ())) = (List.range 29).map (fun (i : Nat) => some (((lenB (257 + i)).1 : Int), ((lenB (257 + i)).2 : Int), ())) := by kernel_rfl
set_option maxRecDepth 100000 in
theorem f48_all : (List.range 30).map (fun (i : Nat) => f48 ((i : Int), ())) = (List.range 30).map (fun (i : Nat) => some (((bkB i).1 : Int), ((bkB i).2 : Int), ())) := by kernel_rfl
theorem map_at {α : Type} {f g : Nat → α} {n : Nat} (h : (List.range n).map f = (List.range n).map g) {i : Nat} (hi : i < n) : f i = g i := by
  have := congrArg (fun l => l[i]?) h
  rw [List.getElem?_map, List.getElem?_map, List.getElem?_range hi] at this
  exact Option.some.inj this
theorem f46_at {i : Nat} (h : i < 29) : f46 (((257 + i : Nat) : Int), ()) = some (((lenB (257 + i)).1 : Int), ((lenB (257 + i)).2 : Int), ()) := map_at f46_all h
theorem f48_at {i : Nat} (h : i < 30) : f48 ((i : Int), ()) = some (((bkB i).1 : Int), ((bkB i).2 : Int), ()) := map_at f48_all h
theorem l23_3_spec (T : List Tok) (x1 : List Int) (x2 : Int) (x6 : List Int) (x7 : List Bool) (tb tl tk : Int) (hv : 3 ≤ tl) : ∀ (k i : Nat), i < k → i < 29 →
    loopN g23_3 o23_3 b23_3 k (T, x1, x2, ((257 + i : Nat) : Int), ((lenB (257 + i)).1 : Int), ((lenB (257 + i)).2 : Int), x6, x7, tb, tl, tk, ()) =
      some (.inl (T, x1, x2, ((257 + pick longT tl i : Nat) : Int), ((lenB (257 + pick longT tl i)).1 : Int), ((lenB (257 + pick longT tl i)).2 : Int), x6, x7, tb, tl, tk, ())) := by
  intro k
  induction k with
  | zero => intro i h; omega
  | succ k ih =>
    intro i h1 h2
    rw [loopN_succ]
    generalize hL : loopN g23_3 o23_3 b23_3 k = L at ih ⊢
    unfold b23_3
    dsimp only
    cases i with
    | zero =>
      have e : (lenB (257 + 0)).1 = 3 := rfl
      rw [if_neg (by rw [decide_eq_true_eq, e]; omega), if_pos rfl, if_pos rfl]
      rfl
    | succ i =>
      have hg := longT_get (i := i + 1) h2
      unfold pick
      rw [hg]
      dsimp only
      by_cases c : ((lenB (257 + (i + 1))).1 : Int) > tl
      · rw [if_pos (decide_eq_true c), if_pos c, show IntKind.wrap .i64 (((257 + (i + 1) : Nat) : Int) - 1) = ((257 + i : Nat) : Int) by rw [wrap_i64 (by omega)]; omega, f46_at (by omega), Option.bind_some]
        dsimp only
        rw [if_pos rfl, if_pos rfl, Option.bind_some, Sum.elim_inl]
        exact ih i (by omega) (by omega)
      · rw [if_neg (fun h => c (of_decide_eq_true h)), if_neg c, if_pos rfl, if_pos rfl]
        rfl
theorem l23_4_spec (T : List Tok) (x1 : List Int) (x2 : Int) (x6 : List Int) (x7 : List Bool) (tb tl tk : Int) (hv : 1 ≤ tk) : ∀ (k i : Nat), i < k → i < 30 →
    loopN g23_4 o23_4 b23_4 k (T, x1, x2, (i : Int), ((bkB i).1 : Int), ((bkB i).2 : Int), x6, x7, tb, tl, tk, ()) =
      some (.inl (T, x1, x2, ((pick behT tk i : Nat) : Int), ((bkB (pick behT tk i)).1 : Int), ((bkB (pick behT tk i)).2 : Int), x6, x7, tb, tl, tk, ())) := by
  intro k
  induction k with
  | zero => intro i h; omega
  | succ k ih =>
    intro i h1 h2
    rw [loopN_succ]
    generalize hL : loopN g23_4 o23_4 b23_4 k = L at ih ⊢
    unfold b23_4
    dsimp only
    cases i with
    | zero =>
      have e : (bkB 0).1 = 1 := rfl
      rw [if_neg (by rw [decide_eq_true_eq, e]; omega), if_pos rfl, if_pos rfl]
      rfl
    | succ i =>
      have hg := behT_get (i := i + 1) h2
      unfold pick
      rw [hg]
      dsimp only
      by_cases c : ((bkB (i + 1)).1 : Int) > tk
      · rw [if_pos (decide_eq_true c), if_pos c, show IntKind.wrap .i64 (((i + 1 : Nat) : Int) - 1) = ((i : Nat) : Int) by rw [wrap_i64 (by omega)]; omega, f48_at (by omega), Option.bind_some]
        dsimp only
        rw [if_pos rfl, if_pos rfl, Option.bind_some, Sum.elim_inl]
        exact ih i (by omega) (by omega)
      · rw [if_neg (fun h => c (of_decide_eq_true h)), if_neg c, if_pos rfl, if_pos rfl]
        rfl
theorem l23_2_spec {T : List Tok} (hTl : T.length ≤ 3000) : ∀ (k i : Nat) (out : List Bool), T.length < i + k → i ≤ T.length → out.length + 32 * (T.length - i) ≤ 100000 →
    loopN g23_2 o23_2 b23_2 k (T, fixL, (i : Int), fixD, out, ()) = if (T.drop i).all isT = true then some (.inl (fixL, out ++ toksB (T.drop i), ())) else some (.inr (.inl ([], 1, ()))) := by
  intro k
  induction k with
  | zero => intro i out h1 h2; omega
  | succ k ih =>
    intro i out h1 h2 h3
    rw [loopN_succ]
    generalize hL : loopN g23_2 o23_2 b23_2 k = L at ih ⊢
    unfold b23_2
    dsimp only
    rcases Nat.lt_or_ge i T.length with h | h
    · rw [drop_getD h (0, 0, 0), if_pos (by rw [decide_eq_true_eq]; omega), if_pos (by omega), if_pos (by omega), Int.toNat_natCast]
      generalize T.getD i (0, 0, 0) = t
      have e1 : toksB (t :: T.drop (i + 1)) = tokB t ++ toksB (T.drop (i + 1)) := by unfold toksB; rw [List.flatMap_cons]
      rw [e1, List.all_cons]
      obtain ⟨tb, tl, tk⟩ := t
      dsimp only
      rw [f44_eqn, Option.bind_some]
      dsimp only
      have wi : IntKind.wrap .i64 ((i : Int) + 1) = ((i + 1 : Nat) : Int) := by rw [wrap_i64 (by omega)]; omega
      cases hm : isT (tb, tl, tk) with
      | false =>
        rw [if_pos (by decide), if_neg (by rw [Bool.false_and]; decide)]
        rfl
      | true =>
        rw [if_neg (by decide), Bool.true_and, ← List.append_assoc]
        have hlen := tokB_len hm
        rw [isT_iff] at hm
        dsimp only at hm
        by_cases c : tl = 0
        · have hsmall := hlen.2 c
          have e2 : tokB (tb, tl, tk) = word fixL tb := by unfold tokB; rw [if_pos c]
          rw [e2] at hsmall ⊢
          rw [if_pos (show (tl == 0) = true from beq_iff_eq.2 c), f45_eqn (err_of errM_fixL), Option.bind_some]
          dsimp only
          rw [full out, full (word fixL tb), if_pos (by omega), if_pos rfl, if_pos rfl, Option.bind_some, Sum.elim_inl, wi]
          exact ih (i + 1) _ (by omega) (by omega) (by rw [List.length_append]; omega)
        · obtain ⟨v, rfl⟩ : ∃ v : Nat, tl = (v : Int) := ⟨tl.toNat, by omega⟩
          obtain ⟨u, rfl⟩ : ∃ v : Nat, tk = (v : Int) := ⟨tk.toNat, by omega⟩
          have hsmall := hlen.1
          have e2 : tokB (tb, (v : Int), (u : Int)) = (word fixL ((lsg (v : Int) : Nat) : Int) ++ bitsN (v - (lenB (lsg (v : Int))).1) (lenB (lsg (v : Int))).2) ++ (word fixD ((bsg (u : Int) : Nat) : Int) ++ bitsN (u - (bkB (bsg (u : Int))).1) (bkB (bsg (u : Int))).2) := by
            unfold tokB
            rw [if_neg c]
            dsimp only
            rw [Int.toNat_natCast, Int.toNat_natCast]
          obtain ⟨g1, g2, g3, g4⟩ := lsg_ok (v := v) (by omega) (by omega)
          obtain ⟨k1, k3, k4⟩ := bsg_ok (v := u) (by omega) (by omega)
          have gl := (lenB_lim g1 g2).2.2
          have gk := (bkB_lim k1).2.2
          have h28 : f46 (285, ()) = some (((lenB (257 + 28)).1 : Int), ((lenB (257 + 28)).2 : Int), ()) := f46_at (i := 28) (by omega)
          have h29 : f48 (29, ()) = some (((bkB 29).1 : Int), ((bkB 29).2 : Int), ()) := f48_at (i := 29) (by omega)
          have r3 := l23_3_spec T fixL (i : Int) fixD out tb (v : Int) (u : Int) (by omega) FU 28 (by unfold FU; omega) (by omega)
          have r3' : loopN g23_3 o23_3 b23_3 FU (T, fixL, (i : Int), 285, ((lenB (257 + 28)).1 : Int), ((lenB (257 + 28)).2 : Int), fixD, out, tb, (v : Int), (u : Int), ()) = some (.inl (T, fixL, (i : Int), ((lsg (v : Int) : Nat) : Int), ((lenB (lsg (v : Int))).1 : Int), ((lenB (lsg (v : Int))).2 : Int), fixD, out, tb, (v : Int), (u : Int), ())) := r3
          have r4 := fun o => l23_4_spec T fixL (i : Int) fixD o tb (v : Int) (u : Int) (by omega) FU 29 (by unfold FU; omega) (by omega)
          have r4' : ∀ o, loopN g23_4 o23_4 b23_4 FU (T, fixL, (i : Int), 29, ((bkB 29).1 : Int), ((bkB 29).2 : Int), fixD, o, tb, (v : Int), (u : Int), ()) = some (.inl (T, fixL, (i : Int), ((bsg (u : Int) : Nat) : Int), ((bkB (bsg (u : Int))).1 : Int), ((bkB (bsg (u : Int))).2 : Int), fixD, o, tb, (v : Int), (u : Int), ())) := r4
          rw [e2] at hsmall ⊢
          generalize lsg (v : Int) = s at g1 g2 g3 g4 gl hsmall r3' ⊢
          generalize bsg (u : Int) = d at k1 k3 k4 gk hsmall r4' ⊢
          rw [List.length_append, List.length_append, List.length_append, bitsN_length, bitsN_length] at hsmall
          have w1 : IntKind.wrap .i64 ((v : Int) - ((lenB s).1 : Int)) = ((v - (lenB s).1 : Nat) : Int) := by rw [wrap_i64 (by omega)]; omega
          have w2 : IntKind.wrap .i64 ((u : Int) - ((bkB d).1 : Int)) = ((u - (bkB d).1 : Nat) : Int) := by rw [wrap_i64 (by omega)]; omega
          rw [if_neg (show ¬ (((v : Int) == 0) = true) from fun h => c (beq_iff_eq.1 h)), h28, Option.bind_some]
          dsimp only
          rw [if_pos rfl, if_pos rfl, show l23_3 = loopN g23_3 o23_3 b23_3 FU from rfl, r3', Option.bind_some, Sum.elim_inl]
          dsimp only
          rw [f45_eqn (err_of errM_fixL), Option.bind_some]
          dsimp only
          generalize word fixL (s : Int) = W at hsmall ⊢
          rw [full out, full W]
          rw [if_pos (by omega)]
          rw [if_pos rfl]
          rw [w1, f47_eqn (by omega) (by omega) (by rw [List.length_append]; omega), Option.bind_some, h29, Option.bind_some]
          dsimp only
          rw [if_pos rfl, if_pos rfl, show l23_4 = loopN g23_4 o23_4 b23_4 FU from rfl, r4', Option.bind_some, Sum.elim_inl]
          dsimp only
          have efd : List.take fixD.length (List.drop 0 fixD) = fixD := full fixD
          rw [efd, f45_eqn (l := fixD) (err_of errM_fixD), Option.bind_some]
          dsimp only
          generalize word fixD (d : Int) = W2 at hsmall ⊢
          rw [full (out ++ W ++ bitsN (v - (lenB s).1) (lenB s).2), full W2, if_pos (by rw [List.length_append, List.length_append, bitsN_length]; omega), if_pos rfl, w2, f47_eqn (by omega) (by omega) (by rw [List.length_append, List.length_append, List.length_append, bitsN_length]; omega), Option.bind_some]
          dsimp only
          rw [if_pos rfl, if_pos rfl, Option.bind_some, Sum.elim_inl, wi]
          have e5 : out ++ W ++ bitsN (v - (lenB s).1) (lenB s).2 ++ W2 ++ bitsN (u - (bkB d).1) (bkB d).2 = out ++ (W ++ bitsN (v - (lenB s).1) (lenB s).2 ++ (W2 ++ bitsN (u - (bkB d).1) (bkB d).2)) := by simp only [List.append_assoc]
          rw [e5]
          exact ih (i + 1) _ (by omega) (by omega) (by rw [List.length_append, List.length_append, List.length_append, List.length_append, bitsN_length, bitsN_length]; omega)
    · rw [List.drop_of_length_le h, if_neg (by rw [decide_eq_true_eq]; omega), if_pos rfl]
      have e0 : toksB ([] : List Tok) = [] := rfl
      rw [e0, List.append_nil]
      rfl
theorem l23_1_spec (T : List Tok) : ∀ (k i : Nat), i ≤ 30 → 30 < i + k → loopN g23_1 o23_1 b23_1 k (T, (i : Int), List.replicate i 5, ()) = some (.inl (T, List.replicate 30 5, ())) := by
  intro k
  induction k with
  | zero => intro i h1 h2; omega
  | succ k ih =>
    intro i h1 h2
    rw [loopN_succ]
    generalize hL : loopN g23_1 o23_1 b23_1 k = L at ih ⊢
    unfold b23_1
    dsimp only
    rcases Nat.lt_or_ge i 30 with h | h
    · have e1 : List.take 1 (List.drop 0 (List.set (List.replicate 1 (0 : Int)) 0 5)) = [5] := rfl
      have e2 : List.replicate i (5 : Int) ++ [5] = List.replicate (i + 1) 5 := by rw [List.replicate_succ']
      rw [if_pos (by rw [decide_eq_true_eq]; omega), e1, full, if_pos (by rw [List.length_replicate]; omega), if_pos rfl, e2, Option.bind_some, Sum.elim_inl, show IntKind.wrap .i64 ((i : Int) + 1) = ((i + 1 : Nat) : Int) by rw [wrap_i64 (by omega)]; omega]
      exact ih (i + 1) (by omega) (by omega)
    · have e : i = 30 := by omega
      subst e
      rw [if_neg (show ¬ (decide (((30 : Nat) : Int) < 30) = true) by decide), if_pos rfl]
      rfl
set_option maxRecDepth 100000 in
theorem f43_fix : f43 () = some (fixL, ()) := by kernel_rfl
theorem f23_head (T : List Tok) (hTl : T.length ≤ 3000) : f23 (T, ()) = if T.all isT = true then Option.bind (f49 (putB T, ())) (fun y5 => some (List.take y5.1.length (List.drop 0 y5.1), 0, ())) else some ([], 1, ()) := by
  have h1 := l23_1_spec T FU 0 (by omega) (by unfold FU; omega)
  have h1' : loopN g23_1 o23_1 b23_1 FU (T, 0, [], ()) = _ := h1
  have h2 := l23_2_spec hTl FU 0 [true, true, false] (by unfold FU; omega) (Nat.zero_le _) (by rw [Nat.sub_zero]; show 3 + _ ≤ _; omega)
  rw [List.drop_zero] at h2
  have h2' : loopN g23_2 o23_2 b23_2 FU (T, fixL, 0, fixD, [true, true, false], ()) = _ := h2
  have e2 : List.take 2 (List.drop 0 (List.set (List.set (List.replicate 2 (0 : Int)) 0 5) 1 5)) = [5, 5] := rfl
  have e3 : List.replicate 30 (5 : Int) ++ [5, 5] = fixD := rfl
  have e4 : List.set (List.set (List.set (List.replicate 3 false) 0 true) 1 true) 2 false = [true, true, false] := rfl
  unfold f23
  dsimp only
  rw [show l23_1 = loopN g23_1 o23_1 b23_1 FU from rfl, h1', Option.bind_some, Sum.elim_inl]
  dsimp only
  rw [e2, full, if_pos (by rw [List.length_replicate]; decide), f43_fix, Option.bind_some]
  dsimp only
  rw [if_pos rfl, e3, e4, full, show l23_2 = loopN g23_2 o23_2 b23_2 FU from rfl, h2']
  cases hT : T.all isT with
  | false => rw [if_neg (by decide), if_neg (by decide), Option.bind_some, Sum.elim_inr, Sum.elim_inl]
  | true =>
    have htl := toksB_len hT
    have hlw := wordL_len 256
    have hpb : [true, true, false] ++ toksB T ++ word fixL 256 = putB T := by unfold putB; rw [List.append_assoc]
    rw [if_pos rfl, if_pos rfl, Option.bind_some, Sum.elim_inl]
    dsimp only
    rw [f45_eqn (err_of errM_fixL), Option.bind_some]
    dsimp only
    generalize word fixL 256 = W at hlw hpb ⊢
    rw [full ([true, true, false] ++ toksB T), full W, hpb]
    rw [full (putB T)]
    rw [if_pos (by rw [List.length_append]; show 3 + _ + _ ≤ _; omega)]
theorem f23_good {T : List Tok} (hT : T.all isT = true) (hTl : T.length ≤ 3000) {B : List Int} (h : Blk T B) : f23 (T, ()) = some (B, 0, ()) := by
  obtain ⟨B', r1, r2, r3, r4⟩ := f49_spec (putB T) (by have := h.lim; omega)
  have e : B' = B := valB_inj r2 h.b (by rw [r3, h.len]) (by rw [r4, h.val])
  rw [f23_head T hTl, if_pos hT, r1, Option.bind_some]
  dsimp only
  rw [full, e]
theorem f9_eqn {b : List Int} (hl : b.length ≤ 140737488355328) : f9 (b, ()) = some (b, ()) := by
  unfold f9
  dsimp only
  rw [if_pos (by omega), if_pos (.inr ⟨rfl, rfl⟩), List.nil_append, if_pos rfl]
end Go.Ev.Zlib
namespace Go.Ev.Zlib
theorem l58_2_spec (b : List Int) (i : Int) : ∀ (k j n : Nat) (out : List Bool), j ≤ 8 → 8 < j + k → n < 256 → out.length + (8 - j) ≤ 100000 →
    loopN g58_2 o58_2 b58_2 k (b, i, (n : Int), (j : Int), out, ()) = some (.inl (b, i, out ++ bitsN n (8 - j), ())) := by
  intro k
  induction k with
  | zero => intro j n out h1 h2; omega
  | succ k ih =>
    intro j n out h1 h2 hn hl
    rw [loopN_succ]
    generalize hL : loopN g58_2 o58_2 b58_2 k = L at ih ⊢
    unfold b58_2
    simp only [if_true, List.drop_zero, List.take_length, one_of, List.length_cons, List.length_nil]
    rcases Nat.lt_or_ge j 8 with h | h
    · rw [if_pos (by simp <;> omega), if_pos (by omega), tdiv2 (by omega), wrap_i64 (by omega), tmod2]
      simp only [Option.bind_some, Sum.elim_inl]
      have := ih (j + 1) (n / 2) (out ++ [decide (n % 2 = 1)]) (by omega) (by omega) (by omega) (by simp; omega)
      rw [show 8 - j = (8 - (j + 1)) + 1 by omega]
      simp only [bitsN]
      simp only [List.append_assoc, List.singleton_append] at this
      exact this
    · have e : j = 8 := by omega
      subst e
      rw [if_neg (by simp)]
      simp only [Option.bind_some, Sum.elim_inr]
      simp [bitsN]
theorem l58_1_spec (b : List Int) (hb : IsB b) (hl : b.length ≤ 1000) : ∀ (k j : Nat) (out : List Bool), j ≤ b.length → b.length < j + k → out.length = 8 * j →
    ∃ out2 : List Bool, loopN g58_1 o58_1 b58_1 k (b, (j : Int), out, ()) = some (.inl (out2, ())) ∧ out2.length = 8 * b.length ∧ nb out2 = nb out + 2 ^ (8 * j) * valB (b.drop j) := by
  intro k
  induction k with
  | zero => intro j out h1 h2; omega
  | succ k ih =>
    intro j out h1 h2 ho
    rw [loopN_succ]
    generalize hL : loopN g58_1 o58_1 b58_1 k = L at ih ⊢
    unfold b58_1
    simp only [if_true, Int.toNat_natCast]
    rcases Nat.lt_or_ge j b.length with h | h
    · rw [if_pos (by simpa using h), if_pos (by omega), if_pos (by omega)]
      have hg := hb.get j
      obtain ⟨n, hn⟩ : ∃ n : Nat, b.getD j 0 = (n : Int) := ⟨(b.getD j 0).toNat, by omega⟩
      rw [hn] at hg
      rw [hn, wrap_i64 (by omega)]
      have g := l58_2_spec b (j : Int) 18446744073709551616 0 n out (by omega) (by omega) (by omega) (by omega)
      have g' : loopN g58_2 o58_2 b58_2 18446744073709551616 (b, (j : Int), (n : Int), 0, out, ()) = _ := g
      rw [show l58_2 = loopN g58_2 o58_2 b58_2 18446744073709551616 from rfl, g']
      simp only [Option.bind_some, Sum.elim_inl]
      rw [wrap_i64 (by omega)]
      obtain ⟨o2, q1, q2, q3⟩ := ih (j + 1) (out ++ bitsN n 8) (by omega) (by omega) (by simp [bitsN_length]; omega)
      refine ⟨o2, q1, q2, ?_⟩
      rw [q3, nb_append, nb_bitsN, ho, Go.Ev.drop_getD 0 h, hn]
      simp only [valB, Int.toNat_natCast]
      rw [Nat.mod_eq_of_lt (by omega), show 8 * (j + 1) = 8 * j + 8 by omega, Nat.pow_add, show (2 : Nat) ^ 8 = 256 from rfl, Nat.mul_assoc, Nat.mul_add]
      omega
    · have e : j = b.length := by omega
      subst e
      rw [if_neg (by simp)]
      refine ⟨out, rfl, ho, ?_⟩
      simp [valB]
theorem f58_spec (b : List Int) (hb : IsB b) (hl : b.length ≤ 1000) : ∃ l : List Bool, f58 (b, ()) = some (l, ()) ∧ l.length = 8 * b.length ∧ nb l = valB b := by
  obtain ⟨o2, h1, h2, h3⟩ := l58_1_spec b hb hl 18446744073709551616 0 [] (by omega) (by omega) rfl
  refine ⟨o2, ?_, h2, by rw [h3]; simp [nb]⟩
  unfold f58
  have h1' : loopN g58_1 o58_1 b58_1 18446744073709551616 (b, 0, [], ()) = _ := h1
  rw [show l58_1 = loopN g58_1 o58_1 b58_1 18446744073709551616 from rfl, h1']
  simp only [Option.bind_some, Sum.elim_inl, if_true]
theorem l90_spec (l : List Bool) (hl : l.length ≤ 24) : ∀ (k i : Nat), i ≤ l.length → i < k →
    loopN g90_1 o90_1 b90_1 k (l, ((nb (l.drop i) : Nat) : Int), (i : Int) - 1, ()) = some (.inl (((nb l : Nat) : Int), ())) := by
  intro k
  induction k with
  | zero => intro i h1 h2; omega
  | succ k ih =>
    intro i h1 h2
    rw [loopN_succ]
    generalize hL : loopN g90_1 o90_1 b90_1 k = L at ih ⊢
    unfold b90_1
    simp only []
    cases i with
    | zero => rw [if_neg (by simp)]; rfl
    | succ i =>
      have e0 : (((i + 1 : Nat) : Int) - 1) = (i : Int) := by omega
      rw [e0, if_pos (by simp), if_pos (by omega), if_pos (by omega)]
      simp only [Int.toNat_natCast]
      have hd := Go.Ev.drop_getD false (by omega : i < l.length)
      have hlt := nb_lt (l.drop (i + 1))
      have hp : (2 : Nat) ^ (l.drop (i + 1)).length ≤ 16777216 := by
        have : (2 : Nat) ^ (l.drop (i + 1)).length ≤ 2 ^ 24 := Nat.pow_le_pow_right (by omega) (by simp; omega)
        simpa using this
      have hi := ih i (by omega) (by omega)
      rw [hd] at hi
      rcases (Bool.eq_false_or_eq_true (l.getD i false)).symm with hbit | hbit
      · rw [if_neg (by rw [hbit]; simp), wrap_i64 (n := 2 * ((nb (l.drop (i + 1)) : Nat) : Int)) (by omega), wrap_i64 (by omega)]
        simp only [Option.bind_some, Sum.elim_inl]
        rw [hbit] at hi
        simp only [nb, Bool.toNat_false, Nat.zero_add] at hi
        rw [show (2 * ((nb (l.drop (i + 1)) : Nat) : Int)) = ((2 * nb (l.drop (i + 1)) : Nat) : Int) by omega]
        exact hi
      · rw [if_pos hbit, wrap_i64 (n := 2 * ((nb (l.drop (i + 1)) : Nat) : Int)) (by omega), wrap_i64 (by omega), wrap_i64 (by omega)]
        simp only [Option.bind_some, Sum.elim_inl]
        rw [hbit] at hi
        simp only [nb, Bool.toNat_true] at hi
        rw [show (2 * ((nb (l.drop (i + 1)) : Nat) : Int) + 1) = ((1 + 2 * nb (l.drop (i + 1)) : Nat) : Int) by omega]
        exact hi
theorem f90_spec (l : List Bool) (hl : l.length ≤ 24) : f90 (l, ()) = some (((nb l : Nat) : Int), ()) := by
  unfold f90
  have h := l90_spec l hl 18446744073709551616 l.length (Nat.le_refl _) (by omega)
  rw [List.drop_length] at h
  have h' : loopN g90_1 o90_1 b90_1 18446744073709551616 (l, 0, (l.length : Int) - 1, ()) = _ := h
  simp only []
  rw [wrap_i64 (by omega), show l90_1 = loopN g90_1 o90_1 b90_1 18446744073709551616 from rfl, h']
  rfl
end Go.Ev.Zlib
namespace Go.Ev.Zlib
def pos (l : List Int) : Nat := l.countP (fun x => decide (0 < x))
theorem sgsLen_succ (l : List Int) (n : Nat) : (sgs l (n + 1)).length = (sgs l n).length + cnt l (n + 1) := by
  simp only [sgs, List.length_append]
  rw [sgn_length l (n + 1) l.length (Nat.le_refl _), List.take_length]
theorem sgsLen_cons (x : Int) (l : List Int) (hx : 0 ≤ x ∧ x ≤ 15) : ∀ n, (sgs (x :: l) n).length = (sgs l n).length + (if 0 < x ∧ x ≤ (n : Int) then 1 else 0)
  | 0 => by
    rw [if_neg (by omega)]; simp [sgs]
  | n + 1 => by
    rw [sgsLen_succ, sgsLen_succ, sgsLen_cons x l hx n]
    have hc : cnt (x :: l) (n + 1) = cnt l (n + 1) + if x = ((n + 1 : Nat) : Int) then 1 else 0 := by
      unfold cnt
      rw [List.count_cons]
      by_cases h : x = ((n + 1 : Nat) : Int)
      · rw [if_pos h, if_pos (by simpa using h)]
      · rw [if_neg h, if_neg (by simpa using h)]
    rw [hc]
    by_cases h : x = ((n + 1 : Nat) : Int)
    · rw [if_pos h, if_neg (by omega), if_pos (by omega)]; omega
    · rw [if_neg h]
      by_cases h2 : 0 < x ∧ x ≤ (n : Int)
      · rw [if_pos h2, if_pos (by omega)]; omega
      · rw [if_neg h2, if_neg (by omega)]; omega
theorem words_pos : ∀ {l : List Int}, Ok l → words l = pos l
  | [], _ => rfl
  | x :: l, h => by
    have hx := h x (List.mem_cons_self ..)
    have ih := words_pos (l := l) (fun y hy => h y (List.mem_cons_of_mem _ hy))
    unfold words at ih ⊢
    rw [sgsLen_cons x l hx 15, ih]
    unfold pos
    rw [List.countP_cons]
    by_cases h2 : 0 < x
    · rw [if_pos (by omega), if_pos (by simpa using h2)]
    · rw [if_neg (by omega), if_neg (by simpa using h2)]
theorem pos_take_succ {l : List Int} {i : Nat} (h : i < l.length) : pos (l.take (i + 1)) = pos (l.take i) + (if 0 < l.getD i 0 then 1 else 0) := by
  unfold pos
  rw [List.take_add_one, List.getElem?_eq_getElem h, List.countP_append]
  have e : l.getD i 0 = l[i] := by rw [List.getD_eq_getElem?_getD, List.getElem?_eq_getElem h]; rfl
  rw [e]
  congr 1
  simp [List.countP_cons]
theorem l95_1_spec {l : List Int} (hl : l.length ≤ 320) : ∀ (k i : Nat), l.length < i + k → i ≤ l.length →
    loopN g95_1 o95_1 b95_1 k (l, (pos (l.take i) : Int), (cnt (l.take i) 1 : Int), (i : Int), ()) = some (.inl (l, (pos l : Int), (cnt l 1 : Int), ())) := by
  intro k
  induction k with
  | zero => intro i h1 h2; omega
  | succ k ih =>
    intro i h1 h2
    rw [loopN_succ]
    generalize hL : loopN g95_1 o95_1 b95_1 k = L at ih ⊢
    unfold b95_1
    simp only [Int.toNat_natCast]
    rcases Nat.lt_or_ge i l.length with h | h
    · have hp : pos (l.take i) ≤ 320 := Nat.le_trans List.countP_le_length (by rw [List.length_take]; omega)
      have hc : cnt (l.take i) 1 ≤ 320 := Nat.le_trans List.count_le_length (by rw [List.length_take]; omega)
      have e3 : IntKind.wrap IntKind.i64 ((i : Int) + 1) = ((i + 1 : Nat) : Int) := by rw [wrap_i64 (by omega)]; omega
      have e4 : IntKind.wrap IntKind.i64 ((pos (l.take i) : Int) + 1) = ((pos (l.take i) + 1 : Nat) : Int) := by rw [wrap_i64 (by omega)]; omega
      have e5 : IntKind.wrap IntKind.i64 ((cnt (l.take i) 1 : Int) + 1) = ((cnt (l.take i) 1 + 1 : Nat) : Int) := by rw [wrap_i64 (by omega)]; omega
      have hps := pos_take_succ h
      have hcs : cnt (l.take (i + 1)) 1 = cnt (l.take i) 1 + (if l.getD i 0 = (1 : Int) then 1 else 0) := by
        unfold cnt; exact count_take_succ h 1
      have hI := ih (i + 1) (by omega) (by omega)
      rw [if_pos (by simp; omega), if_pos (by omega), if_pos (by omega)]
      by_cases hx : 0 < l.getD i 0
      · rw [if_pos (by rw [decide_eq_true_eq]; exact hx), if_pos (by omega), if_pos (by omega)]
        rw [if_pos hx] at hps
        by_cases h1' : l.getD i 0 = 1
        · rw [if_pos (by rw [beq_iff_eq]; exact h1')]
          rw [if_pos h1'] at hcs
          simp only [Option.bind_some, Sum.elim_inl]
          rw [e3, e4, e5]
          rw [hps, hcs] at hI
          exact hI
        · rw [if_neg (by rw [beq_iff_eq]; exact h1')]
          rw [if_neg h1'] at hcs
          simp only [Option.bind_some, Sum.elim_inl]
          rw [e3, e4]
          rw [hps, hcs] at hI
          exact hI
      · rw [if_neg (by rw [decide_eq_true_eq]; exact hx), if_pos (by omega), if_pos (by omega)]
        rw [if_neg hx] at hps
        have h1' : l.getD i 0 ≠ 1 := by
          intro e
          rw [e] at hx
          exact hx (by decide)
        rw [if_neg (by rw [beq_iff_eq]; exact h1')]
        rw [if_neg h1'] at hcs
        simp only [Option.bind_some, Sum.elim_inl]
        rw [e3]
        rw [hps, hcs] at hI
        exact hI
    · rw [if_neg (by simp; omega)]
      simp only [Option.bind_some, Sum.elim_inr]
      have : i = l.length := by omega
      subst this
      rw [List.take_length]
theorem f95_eqn (l : List Int) : f95 (l, ()) = some (errM l, ()) := by
  unfold f95
  rw [f67_eqn]
  rw [Option.bind_some]
  dsimp only
  by_cases he : err l = 0
  · obtain ⟨hl, hk, hs⟩ := err_ok he
    have g := l95_1_spec hl 18446744073709551616 0 (by omega) (by omega)
    rw [if_neg (by rw [he]; simp)]
    have g' : loopN g95_1 o95_1 b95_1 18446744073709551616 (l, 0, 0, 0, ()) = _ := g
    rw [show l95_1 = loopN g95_1 o95_1 b95_1 18446744073709551616 from rfl]
    generalize loopN g95_1 o95_1 b95_1 18446744073709551616 (l, 0, 0, 0, ()) = X at g' ⊢
    subst g'
    rw [Option.bind_some, Sum.elim_inl]
    dsimp only
    have e28 : f85 (l, ()) = some ((shr l : Int), ()) := by
      rcases f85_eqn l with ⟨h, _⟩ | ⟨_, h, _⟩ | ⟨_, _, h⟩
      · omega
      · exact absurd hk h
      · exact h
    rw [e28, Option.bind_some]
    dsimp only
    rw [← words_pos hk]
    by_cases h1 : shr l < 32768
    · rw [if_neg (by rw [beq_iff_eq]; omega)]
      by_cases h2 : 0 < words l
      · rw [if_neg (by rw [beq_iff_eq]; omega)]
        by_cases h3 : 1 < words l
        · rw [errM_pos he ⟨h1, h2, .inl h3⟩, if_neg (by rw [beq_iff_eq]; omega)]
        · rw [if_pos (by rw [beq_iff_eq]; omega)]
          by_cases h4 : cnt l 1 = 0
          · rw [errM_pos he ⟨h1, h2, .inr h4⟩, if_neg (by rw [beq_iff_eq]; omega)]
          · have hle : cnt l 1 ≤ words l := by
              unfold words
              have : ∀ n, 1 ≤ n → cnt l 1 ≤ (sgs l n).length := by
                intro n hn
                induction n with
                | zero => omega
                | succ n ih =>
                  rw [sgsLen_succ]
                  rcases Nat.eq_zero_or_pos n with h0 | h0
                  · subst h0; exact Nat.le_add_left _ _
                  · have := ih h0; omega
              exact this 15 (by omega)
            rw [errM_neg he (fun h => h.2.2.elim h3 h4), if_pos (by rw [beq_iff_eq]; omega)]
      · rw [errM_neg he (fun h => h2 h.2.1), if_pos (by rw [beq_iff_eq]; omega)]
    · rw [errM_neg he (fun h => h1 h.1), if_pos (by rw [beq_iff_eq]; omega)]
  · have hm : errM l = err l := by unfold errM; rw [if_neg he]
    rw [if_pos (by simpa using he), hm]
end Go.Ev.Zlib
namespace Go.Ev.Zlib
theorem f78_bit {b : List Int} (hbl : b.length ≤ 1000) {L : List Bool} (hL : L.length = 8 * b.length) (hn : nb L = valB b) {p : Nat} (hp : p ≤ 8 * b.length) :
    f78 (1, L, (p : Int), ()) = if p + 1 ≤ 8 * b.length then some (((bitsAt b p 1 : Nat) : Int), 0, L, ((p + 1 : Nat) : Int), ()) else some (0, 6, L, (p : Int), ()) := by
  unfold f78
  dsimp only
  rw [if_neg (show ¬ (decide ((1 : Int) < 0) = true) by decide), if_neg (show ¬ (decide ((1 : Int) > 24) = true) by decide), wrap_i64 (n := ((L.length : Nat) : Int) - (p : Int)) (by omega)]
  by_cases c : p + 1 ≤ 8 * b.length
  · have w1 : IntKind.wrap .i64 ((p : Int) + 1) = ((p + 1 : Nat) : Int) := by rw [wrap_i64 (by omega)]; omega
    have w2 : IntKind.wrap .i64 (((p + 1 : Nat) : Int) - 1) = (p : Int) := by rw [wrap_i64 (by omega)]; omega
    have e : nb (List.drop p (List.take (p + 1) L)) = bitsAt b p 1 := by
      rw [List.drop_take, show p + 1 - p = 1 by omega, nb_take _ (by rw [List.length_drop]; omega), nb_drop _ (by omega), hn]
      rfl
    rw [if_neg (by rw [decide_eq_true_eq]; omega), w1, w2, if_pos (by omega), if_pos (by omega), if_pos (by omega), if_pos (by omega), Int.toNat_natCast, Int.toNat_natCast, f90_spec _ (by rw [List.length_drop, List.length_take]; omega), Option.bind_some, if_pos c, e]
  · rw [if_pos (by rw [decide_eq_true_eq]; omega), if_neg c]
theorem l94_2_spec {l : List Int} (hl : l.length ≤ 320) {n v : Nat} (hn : 1 ≤ n) (L : List Bool) (at' : Int) : ∀ (k j : Nat), l.length < j + k → j ≤ l.length → (∀ i, i < j → ¬ (l.getD i 0 = (n : Int) ∧ code l i = (v : Int))) →
    loopN g94_2 o94_2 b94_2 k (l, codes l, (v : Int), (n : Int), (j : Int), L, at', ()) = (match look l n v with | some x => some (.inr (.inl (x, 0, L, at', ()))) | none => some (.inl (l, codes l, (v : Int), (n : Int), L, at', ()))) := by
  intro k
  induction k with
  | zero => intro j h1 h2; omega
  | succ k ih =>
    intro j h1 h2 h3
    rw [loopN_succ]
    generalize hLL : loopN g94_2 o94_2 b94_2 k = LL at ih ⊢
    unfold b94_2
    dsimp only
    have hcl : (codes l).length = l.length := tab_length ..
    rcases Nat.lt_or_ge j l.length with h | h
    · have hc : (codes l).getD j 0 = code l j := tab_get h _
      have w1 : IntKind.wrap .i64 ((j : Int) + 1) = ((j + 1 : Nat) : Int) := by rw [wrap_i64 (by omega)]; omega
      rw [if_pos (by rw [decide_eq_true_eq]; omega), if_pos (by omega), if_pos (by omega), Int.toNat_natCast, w1]
      by_cases c1 : l.getD j 0 = (n : Int)
      · rw [if_pos (beq_iff_eq.2 c1), if_pos (by omega), if_pos (by omega), hc]
        by_cases c2 : code l j = (v : Int)
        · rw [if_pos (beq_iff_eq.2 c2), look_at hn h c1 c2]
          rfl
        · rw [if_neg (fun e => c2 (beq_iff_eq.1 e)), Option.bind_some, Sum.elim_inl]
          refine ih (j + 1) (by omega) (by omega) fun i hi => ?_
          by_cases e : i = j
          · rw [e]; exact fun q => c2 q.2
          · exact h3 i (by omega)
      · rw [if_neg (fun e => c1 (beq_iff_eq.1 e)), Option.bind_some, Sum.elim_inl]
        refine ih (j + 1) (by omega) (by omega) fun i hi => ?_
        by_cases e : i = j
        · rw [e]; exact fun q => c1 q.1
        · exact h3 i (by omega)
    · rw [if_neg (by rw [decide_eq_true_eq]; omega)]
      cases hk : look l n v with
      | none => rfl
      | some x =>
        obtain ⟨s, s1, s2, s3, s4⟩ := look_some hn hk
        exact absurd ⟨s3, s4⟩ (h3 s (by omega))
theorem l94_1_spec {l : List Int} (hl : l.length ≤ 320) {b : List Int} (hbl : b.length ≤ 1000) {L : List Bool} (hL : L.length = 8 * b.length) (hnb : nb L = valB b) : ∀ (r k n p v : Nat), n + r = 16 → 1 ≤ n → r < k → p ≤ 8 * b.length → v < 2 ^ (n - 1) →
    loopN g94_1 o94_1 b94_1 k (l, codes l, (v : Int), (n : Int), L, (p : Int), ()) =
      (match readR l b r n p v with
      | (none, p') => some (.inl (L, (p' : Int), ()))
      | (some (s, e), p') => some (.inr (.inl (s, e, L, (p' : Int), ())))) := by
  intro r
  induction r with
  | zero =>
    intro k n p v h1 h0 h2 h3 h4
    obtain ⟨k, rfl⟩ : ∃ j, k = j + 1 := ⟨k - 1, by omega⟩
    rw [loopN_succ]
    generalize loopN g94_1 o94_1 b94_1 k = LL
    unfold b94_1
    dsimp only
    rw [if_neg (by rw [decide_eq_true_eq]; omega)]
    rfl
  | succ r ih =>
    intro k n p v h1 h0 h2 h3 h4
    obtain ⟨k, rfl⟩ : ∃ j, k = j + 1 := ⟨k - 1, by omega⟩
    have ih := ih k
    rw [loopN_succ]
    generalize hLL : loopN g94_1 o94_1 b94_1 k = LL at ih ⊢
    unfold b94_1 readR
    dsimp only
    have hp15 : (2 : Nat) ^ (n - 1) ≤ 32768 := by
      have : (2 : Nat) ^ (n - 1) ≤ 2 ^ 15 := Nat.pow_le_pow_right (by omega) (by omega)
      simpa using this
    rw [if_pos (by rw [decide_eq_true_eq]; omega), f78_bit hbl hL hnb h3]
    by_cases c : p + 1 ≤ 8 * b.length
    · have hx := bitsAt_lt b p 1
      generalize bitsAt b p 1 = x at hx ⊢
      rw [if_pos c, if_pos c, Option.bind_some]
      dsimp only
      have w1 : IntKind.wrap .i64 (2 * (v : Int)) = ((2 * v : Nat) : Int) := by rw [wrap_i64 (by omega)]; omega
      have w2 : IntKind.wrap .i64 (((2 * v : Nat) : Int) + (x : Int)) = ((2 * v + x : Nat) : Int) := by rw [wrap_i64 (by omega)]; omega
      have hr := l94_2_spec hl (n := n) (v := 2 * v + x) h0 L (((p + 1 : Nat)) : Int) 18446744073709551616 0 (by omega) (by omega) (fun i hi => by omega)
      have hr' : loopN g94_2 o94_2 b94_2 18446744073709551616 (l, codes l, ((2 * v + x : Nat) : Int), (n : Int), 0, L, ((p + 1 : Nat) : Int), ()) = _ := hr
      rw [if_neg (by decide), w1, w2, show l94_2 = loopN g94_2 o94_2 b94_2 18446744073709551616 from rfl, hr']
      cases look l n (2 * v + x) with
      | some s => rfl
      | none =>
        dsimp only
        rw [Option.bind_some, Sum.elim_inl, Option.bind_some, Sum.elim_inl, show IntKind.wrap .i64 ((n : Int) + 1) = ((n + 1 : Nat) : Int) by rw [wrap_i64 (by omega)]; omega]
        refine ih (n + 1) (p + 1) (2 * v + x) (by omega) (by omega) (by omega) c ?_
        have e : n + 1 - 1 = n - 1 + 1 := by omega
        rw [e, Nat.pow_succ]
        omega
    · rw [if_neg c, if_neg c, Option.bind_some]
      rfl
theorem f94_eqn {l : List Int} (hk : err l = 0) {b : List Int} (hbl : b.length ≤ 1000) {L : List Bool} (hL : L.length = 8 * b.length) (hnb : nb L = valB b) {p : Nat} (hp : p ≤ 8 * b.length) :
    f94 (l, L, (p : Int), ()) = some ((readH l b p).1, (readH l b p).2.1, L, (((readH l b p).2.2 : Nat) : Int), ()) := by
  obtain ⟨hl, _, _⟩ := err_ok hk
  have h := l94_1_spec hl hbl hL hnb 15 18446744073709551616 1 p 0 rfl (by omega) (by omega) hp (by decide)
  have h' : loopN g94_1 o94_1 b94_1 18446744073709551616 (l, codes l, 0, 1, L, (p : Int), ()) = _ := h
  unfold f94 readH
  dsimp only
  rw [f67_eqn, Option.bind_some, if_pos hk]
  dsimp only
  rw [List.drop_zero, List.take_length, show l94_1 = loopN g94_1 o94_1 b94_1 18446744073709551616 from rfl, h']
  generalize readR l b 15 1 p 0 = q
  obtain ⟨o, p'⟩ := q
  cases o with
  | none => rfl
  | some o =>
    obtain ⟨s, e⟩ := o
    rfl
end Go.Ev.Zlib
namespace Go.Ev.Zlib
set_option maxRecDepth 100000 in
theorem awake_true : f8 () = some (true, ()) := by kernel_rfl
def S : List Int → Nat
  | [] => 0
  | x :: l => x.toNat + S l
def W : List Int → Nat
  | [] => 0
  | x :: l => (l.length + 1) * x.toNat + W l
theorem mod_step (n a b x s w : Nat) : (((b + (a + x) % 65521) % 65521) + n * ((a + x) % 65521) + w) % 65521 = (b + (n + 1) * a + ((n + 1) * x + w)) % 65521 ∧ ((a + x) % 65521 + s) % 65521 = (a + (x + s)) % 65521 := by
  refine ⟨?_, by omega⟩
  have h : n * (a + x) = 65521 * (n * ((a + x) / 65521)) + n * ((a + x) % 65521) := by
    conv => lhs; rw [← Nat.div_add_mod (a + x) 65521, Nat.mul_add]
    rw [← Nat.mul_assoc, Nat.mul_comm n 65521, Nat.mul_assoc]
  rw [Nat.mul_add] at h
  rw [Nat.add_mul, Nat.add_mul]
  generalize n * ((a + x) % 65521) = p at h ⊢
  generalize n * ((a + x) / 65521) = q at h
  generalize n * a = u at h ⊢
  generalize n * x = v at h ⊢
  omega
theorem l7_1_spec {l : List Int} (hb : IsB l) (hl : l.length ≤ 10000) : ∀ (k i a b : Nat), l.length < i + k → i ≤ l.length → a < 65521 → b < 65521 →
    loopN g7_1 o7_1 b7_1 k (l, ((l.length : Nat) : Int), (i : Int), (a : Int), (b : Int), ()) = some (.inl ((((a + S (l.drop i)) % 65521 : Nat) : Int), (((b + (l.length - i) * a + W (l.drop i)) % 65521 : Nat) : Int), ())) := by
  intro k
  induction k with
  | zero => intro i a b h1 h2; omega
  | succ k ih =>
    intro i a b h1 h2 h3 h4
    rw [loopN_succ]
    generalize hL : loopN g7_1 o7_1 b7_1 k = L at ih ⊢
    unfold b7_1
    dsimp only
    rw [Int.toNat_natCast]
    rcases Nat.lt_or_ge i l.length with h | h
    · have hm : l.getD i 0 ∈ l := by
        rw [List.getD_eq_getElem?_getD, List.getElem?_eq_getElem h]
        exact List.getElem_mem _
      obtain ⟨x0, x1⟩ := hb _ hm
      have hx : (l.getD i 0) = (((l.getD i 0).toNat : Nat) : Int) := by omega
      have hd : l.drop i = l.getD i 0 :: l.drop (i + 1) := by
        rw [List.getD_eq_getElem?_getD, List.getElem?_eq_getElem h]
        exact List.drop_eq_getElem_cons h
      generalize hxn : (l.getD i 0).toNat = x at hx
      have w1 : IntKind.wrap .i64 (l.getD i 0) = (x : Int) := by rw [hx, wrap_i64 (by omega)]
      have w2 : IntKind.wrap .i64 ((a : Int) + (x : Int)) = ((a + x : Nat) : Int) := by rw [wrap_i64 (by omega)]; omega
      have w3 : Int.tmod (((a + x : Nat) : Int)) 65521 = (((a + x) % 65521 : Nat) : Int) := rfl
      have w4 : IntKind.wrap .i64 ((b : Int) + (((a + x) % 65521 : Nat) : Int)) = ((b + (a + x) % 65521 : Nat) : Int) := by rw [wrap_i64 (by omega)]; omega
      have w5 : Int.tmod (((b + (a + x) % 65521 : Nat) : Int)) 65521 = (((b + (a + x) % 65521) % 65521 : Nat) : Int) := rfl
      rw [if_pos (by rw [decide_eq_true_eq]; omega), if_pos (by omega), if_pos (by omega), w1, w2, w3, w4, w5, Option.bind_some, Sum.elim_inl, show IntKind.wrap .i64 ((i : Int) + 1) = ((i + 1 : Nat) : Int) by rw [wrap_i64 (by omega)]; omega]
      have hI := ih (i + 1) ((a + x) % 65521) ((b + (a + x) % 65521) % 65521) (by omega) (by omega) (by omega) (by omega)
      rw [hI, hd]
      simp only [S, W, hxn]
      have hlen : (l.drop (i + 1)).length = l.length - (i + 1) := List.length_drop ..
      obtain ⟨m1, m2⟩ := mod_step (l.length - (i + 1)) a b x (S (l.drop (i + 1))) (W (l.drop (i + 1)))
      rw [hlen, m1, m2, show l.length - (i + 1) + 1 = l.length - i by omega]
    · rw [if_neg (by rw [decide_eq_true_eq]; omega), List.drop_of_length_le (by omega), show l.length - i = 0 by omega]
      simp only [S, W, Nat.zero_mul, Nat.add_zero]
      rw [Nat.mod_eq_of_lt h3, Nat.mod_eq_of_lt h4]
      rfl
def lowS (l : List Int) : Nat := (1 + S l) % 65521
def highS (l : List Int) : Nat := (l.length + W l) % 65521
theorem f7_eqn {l : List Int} (hb : IsB l) (hl : l.length ≤ 10000) : f7 (l, ()) = some (((highS l * 65536 + lowS l : Nat) : Int), ()) := by
  have h := l7_1_spec hb hl 18446744073709551616 0 1 0 (by omega) (by omega) (by omega) (by omega)
  rw [List.drop_zero, Nat.sub_zero, Nat.mul_one, Nat.zero_add] at h
  unfold f7
  dsimp only
  have h' : loopN g7_1 o7_1 b7_1 18446744073709551616 (l, ((l.length : Nat) : Int), 0, 1, 0, ()) = some (.inl (((lowS l : Nat) : Int), ((highS l : Nat) : Int), ())) := h
  rw [show l7_1 = loopN g7_1 o7_1 b7_1 18446744073709551616 from rfl]
  generalize loopN g7_1 o7_1 b7_1 18446744073709551616 (l, ((l.length : Nat) : Int), 0, 1, 0, ()) = X at h' ⊢
  subst h'
  rw [Option.bind_some, Sum.elim_inl]
  dsimp only
  have l1 : lowS l < 65521 := Nat.mod_lt _ (by omega)
  have l2 : highS l < 65521 := Nat.mod_lt _ (by omega)
  have w1 : IntKind.wrap .i64 (((highS l : Nat) : Int) * 65536) = ((highS l * 65536 : Nat) : Int) := by rw [wrap_i64 (by omega)]; omega
  rw [w1, or64 (by omega) (by omega), Nat.or_comm, show highS l * 65536 = highS l * 2 ^ 16 from rfl, or_split _ (by omega), wrap_i64 (by omega)]
  congr 2
  omega
end Go.Ev.Zlib
namespace Go.Ev.Zlib
def sumZ (l : List Int) : Nat := highS l * 65536 + lowS l
theorem sumZ_lt (l : List Int) : sumZ l < 4294967296 := by
  have l1 : lowS l < 65521 := Nat.mod_lt _ (by omega)
  have l2 : highS l < 65521 := Nat.mod_lt _ (by omega)
  unfold sumZ
  omega
def s4 (n : Nat) : List Int := [((n / 16777216 % 256 : Nat) : Int), ((n / 65536 % 256 : Nat) : Int), ((n / 256 % 256 : Nat) : Int), ((n % 256 : Nat) : Int)]
theorem isB_s4 (n : Nat) : IsB (s4 n) := fun x hx => by
  unfold s4 at hx
  simp only [List.mem_cons, List.not_mem_nil, or_false] at hx
  omega
theorem be_s4 {n : Nat} (h : n < 4294967296) : be (s4 n) = n := by
  unfold s4
  simp only [be, Int.toNat_natCast, List.length_cons, List.length_nil]
  omega
def packZ (B : List Int) (n : Nat) : List Int := ([120, 1] ++ B) ++ s4 n
theorem b10_1_a (x0 d : List Int) : b10_1 (x0, d, [], ByteArray.mk #[120, 1], 0, ()) = some (.inl (x0, d, [120], ByteArray.mk #[120, 1], 1, ())) := by
  have h : Go.Utf8.decode (ByteArray.mk #[120, 1]) 0 = (120, 1) := by decide +kernel
  unfold b10_1
  dsimp only
  rw [h]
  rfl
theorem b10_1_b (x0 d : List Int) : b10_1 (x0, d, [120], ByteArray.mk #[120, 1], 1, ()) = some (.inl (x0, d, [120, 1], ByteArray.mk #[120, 1], 2, ())) := by
  have h : Go.Utf8.decode (ByteArray.mk #[120, 1]) 1 = (1, 1) := by decide +kernel
  unfold b10_1
  dsimp only
  rw [h]
  rfl
theorem b10_1_c (x0 d : List Int) : b10_1 (x0, d, [120, 1], ByteArray.mk #[120, 1], 2, ()) = some (.inr (.inl (x0, d, [120, 1], ()))) := rfl
theorem l10_1_head (x0 d : List Int) : l10_1 (x0, d, [], ByteArray.mk #[120, 1], 0, ()) = some (.inl (x0, d, [120, 1], ())) := by
  rw [show l10_1 = loopN g10_1 o10_1 b10_1 (18446744073709551613 + 1 + 1 + 1) from rfl]
  rw [loopN_succ, b10_1_a, Option.bind_some, Sum.elim_inl, loopN_succ, b10_1_b, Option.bind_some, Sum.elim_inl, loopN_succ, b10_1_c, Option.bind_some, Sum.elim_inr]
theorem f10_eqn {b : List Int} (hB : IsB b) (hl : b.length ≤ 3000) : ∃ T B, Toks b 0 T ∧ Blk T B ∧ T.all isT = true ∧ T.length ≤ 3000 ∧ f10 (b, ()) = some (0, packZ B (sumZ b), ()) := by
  obtain ⟨T, B, h1, h2, h3, h4, h5, hT, hTl⟩ := deflate_eqn hB hl
  have hBs := h5.small
  refine ⟨T, B, h1, h5, hT, hTl, ?_⟩
  unfold f10
  dsimp only
  rw [h4, Option.bind_some]
  dsimp only
  rw [if_neg (by decide), full, l10_1_head, Option.bind_some, Sum.elim_inl]
  dsimp only
  rw [full ([120, 1] : List Int)]
  have hs := sumZ_lt b
  have hf7 : f7 (b, ()) = some (((sumZ b : Nat) : Int), ()) := f7_eqn hB (by omega)
  rw [if_pos (by rw [List.length_cons, List.length_cons, List.length_nil]; omega), hf7, Option.bind_some]
  dsimp only
  generalize sumZ b = n at hs ⊢
  have w1 : IntKind.wrap .u8 (Int.fdiv (n : Int) 16777216) = ((n / 16777216 % 256 : Nat) : Int) := by rw [wrap_u8, Int.fdiv_eq_ediv_of_nonneg _ (by omega)]; omega
  have w2 : IntKind.wrap .u8 (Int.fdiv (n : Int) 65536) = ((n / 65536 % 256 : Nat) : Int) := by rw [wrap_u8, Int.fdiv_eq_ediv_of_nonneg _ (by omega)]; omega
  have w3 : IntKind.wrap .u8 (Int.fdiv (n : Int) 256) = ((n / 256 % 256 : Nat) : Int) := by rw [wrap_u8, Int.fdiv_eq_ediv_of_nonneg _ (by omega)]; omega
  have w4 : IntKind.wrap .u8 (n : Int) = ((n % 256 : Nat) : Int) := by rw [wrap_u8]; omega
  have e4 : ∀ a b c d : Int, List.take 4 (List.drop 0 (List.set (List.set (List.set (List.set (List.replicate 4 (0 : Int)) 0 a) 1 b) 2 c) 3 d)) = [a, b, c, d] := fun _ _ _ _ => rfl
  rw [w1, w2, w3, w4, e4, full ([120, 1] ++ B : List Int), if_pos (by rw [List.length_append, List.length_cons, List.length_cons, List.length_nil]; simp only [List.length_cons, List.length_nil]; omega), if_pos rfl]
  rfl
theorem l12_1_spec (out : List Int) {l : List Int} (hl : l.length ≤ 4) (hB : IsB l) : ∀ (k i acc : Nat), l.length < i + k → i ≤ l.length → acc < 256 ^ i →
    loopN g12_1 o12_1 b12_1 k (out, (acc : Int), l, ((l.length : Nat) : Int), (i : Int), ()) = some (.inl (out, ((acc * 256 ^ (l.length - i) + be (l.drop i) : Nat) : Int), ())) := by
  intro k
  induction k with
  | zero => intro i acc h1 h2; omega
  | succ k ih =>
    intro i acc h1 h2 h3
    rw [loopN_succ]
    generalize hL : loopN g12_1 o12_1 b12_1 k = L at ih ⊢
    unfold b12_1
    dsimp only
    rcases Nat.lt_or_ge i l.length with h | h
    · have hx := hB.get i
      rw [drop_getD h 0, if_pos (by rw [decide_eq_true_eq]; omega), if_pos (by omega), if_pos (by omega), Int.toNat_natCast]
      have hbl : be (l.getD i 0 :: l.drop (i + 1)) = (l.getD i 0).toNat * 256 ^ (l.drop (i + 1)).length + be (l.drop (i + 1)) := rfl
      rw [hbl, List.length_drop]
      generalize l.getD i 0 = x at hx ⊢
      obtain ⟨y, rfl⟩ : ∃ y : Nat, x = (y : Int) := ⟨x.toNat, by omega⟩
      have hacc : acc < 16777216 := by
        have : 256 ^ i ≤ 256 ^ 3 := Nat.pow_le_pow_right (by omega) (by omega)
        have e : (256 : Nat) ^ 3 = 16777216 := rfl
        omega
      have w1 : IntKind.wrap .i64 ((acc : Int) * 256) = ((acc * 2 ^ 8 : Nat) : Int) := by rw [wrap_i64 (by omega)]; omega
      rw [w1, wrap_i64 (n := (y : Int)) (by omega), or64 (by omega) (by omega), shl_or (by omega), wrap_i64 (by omega), Option.bind_some, Sum.elim_inl,
        show IntKind.wrap .i64 ((i : Int) + 1) = ((i + 1 : Nat) : Int) by rw [wrap_i64 (by omega)]; omega]
      have hI := ih (i + 1) (acc * 2 ^ 8 + y) (by omega) (by omega) (by rw [Nat.pow_succ]; omega)
      rw [hI]
      refine congrArg (fun q : Nat => some (Sum.inl (out, (q : Int), ()))) ?_
      have e : acc * 2 ^ 8 * 256 ^ (l.length - (i + 1)) = acc * 256 ^ (l.length - i) := by
        rw [Nat.mul_assoc, show (2 : Nat) ^ 8 = 256 ^ 1 from rfl, ← Nat.pow_add, show 1 + (l.length - (i + 1)) = l.length - i by omega]
      rw [Int.toNat_natCast, Nat.add_mul, e, Nat.add_assoc]
    · rw [if_neg (by rw [decide_eq_true_eq]; omega), show l.length - i = 0 by omega, List.drop_of_length_le h, Nat.pow_zero, Nat.mul_one]
      rfl
end Go.Ev.Zlib
namespace Go.Ev.Zlib
structure Rd (b : List Int) (L : List Bool) : Prop where
  isB : IsB b
  lim : b.length ≤ 1000
  len : L.length = 8 * b.length
  num : nb L = valB b
theorem f78_eqn {b : List Int} {L : List Bool} (h : Rd b L) {p n : Nat} (hn : n ≤ 24) (hp : p + n ≤ 8 * b.length) :
    f78 ((n : Int), L, (p : Int), ()) = some (((bitsAt b p n : Nat) : Int), 0, L, ((p + n : Nat) : Int), ()) := by
  have hl := h.len
  have hb := h.lim
  have w0 : IntKind.wrap .i64 (((L.length : Nat) : Int) - (p : Int)) = ((L.length - p : Nat) : Int) := by rw [wrap_i64 (by omega)]; omega
  have w1 : IntKind.wrap .i64 ((p : Int) + (n : Int)) = ((p + n : Nat) : Int) := by rw [wrap_i64 (by omega)]; omega
  have w2 : IntKind.wrap .i64 (((p + n : Nat) : Int) - (n : Int)) = (p : Int) := by rw [wrap_i64 (by omega)]; omega
  have e : nb (List.drop p (List.take (p + n) L)) = bitsAt b p n := by
    rw [List.drop_take, show p + n - p = n by omega, nb_take _ (by rw [List.length_drop]; omega), nb_drop _ (by omega), h.num]
    rfl
  unfold f78
  dsimp only
  rw [w0, w1, w2, if_neg (by rw [decide_eq_true_eq]; omega), if_neg (by rw [decide_eq_true_eq]; omega), if_neg (by rw [decide_eq_true_eq]; omega), if_pos (by omega), if_pos (by omega), if_pos (by omega), if_pos (by omega), Int.toNat_natCast, Int.toNat_natCast,
    f90_spec _ (by rw [List.length_drop, List.length_take]; omega), Option.bind_some, e]
theorem f78_more {b : List Int} {L : List Bool} (h : Rd b L) {p n : Nat} (hp0 : p ≤ 8 * b.length) (hn : n ≤ 24) (hp : 8 * b.length < p + n) :
    f78 ((n : Int), L, (p : Int), ()) = some (0, 6, L, (p : Int), ()) := by
  have hl := h.len
  have hb := h.lim
  have w0 : IntKind.wrap .i64 (((L.length : Nat) : Int) - (p : Int)) = ((L.length - p : Nat) : Int) := by rw [wrap_i64 (by omega)]; omega
  unfold f78
  dsimp only
  rw [w0, if_neg (by rw [decide_eq_true_eq]; omega), if_neg (by rw [decide_eq_true_eq]; omega), if_pos (by rw [decide_eq_true_eq]; omega)]
theorem l91_1_spec (L : List Bool) : ∀ (k p : Nat), 8 * ra p - p < k → p ≤ 100000 → loopN g91_1 o91_1 b91_1 k (L, (p : Int), ()) = some (.inl (L, ((8 * ra p : Nat) : Int), ())) := by
  intro k
  induction k with
  | zero => intro p h; omega
  | succ k ih =>
    intro p h1 h2
    rw [loopN_succ]
    generalize hL : loopN g91_1 o91_1 b91_1 k = X at ih ⊢
    unfold b91_1
    dsimp only
    have e : Int.tmod (p : Int) 8 = ((p % 8 : Nat) : Int) := rfl
    rw [e]
    by_cases c : p % 8 = 0
    · rw [c, if_neg (by decide), show 8 * ra p = p by unfold ra; omega]
      rfl
    · have hr : ra (p + 1) = ra p := by unfold ra; omega
      rw [if_pos (by rw [bne_iff_ne]; omega), Option.bind_some, Sum.elim_inl, show IntKind.wrap .i64 ((p : Int) + 1) = ((p + 1 : Nat) : Int) by rw [wrap_i64 (by omega)]; omega]
      have := ih (p + 1) (by rw [hr]; unfold ra at h1 ⊢; omega) (by omega)
      rw [hr] at this
      exact this
theorem f91_eqn {b : List Int} {L : List Bool} (h : Rd b L) {p : Nat} (hp : p ≤ 8 * b.length) : f91 (L, (p : Int), ()) = some (0, L, ((8 * ra p : Nat) : Int), ()) := by
  have hb := h.lim
  have hl := l91_1_spec L FU p (by unfold FU ra; omega) (by omega)
  unfold f91
  dsimp only
  rw [show l91_1 = loopN g91_1 o91_1 b91_1 FU from rfl, hl, Option.bind_some, Sum.elim_inl]
theorem valB_take {a : List Int} (ha : IsB a) {n : Nat} (hn : n ≤ a.length) : valB (a.take n) = valB a % 256 ^ n := by
  have h := valB_append (a.take n) (a.drop n)
  rw [List.take_append_drop, List.length_take, Nat.min_eq_left hn] at h
  have hlt := valB_lt (a := a.take n) (ha.take n)
  rw [List.length_take, Nat.min_eq_left hn] at hlt
  rw [h, Nat.add_mul_mod_self_left, Nat.mod_eq_of_lt hlt]
theorem f92_more {b : List Int} {L : List Bool} (h : Rd b L) {q n : Nat} (hq : q ≤ b.length) (hn : n ≤ 100000) (hp : b.length < q + n) :
    f92 ((n : Int), L, ((8 * q : Nat) : Int), ()) = some (6, L, ((8 * q : Nat) : Int), [], ()) := by
  have hl := h.len
  have hb := h.lim
  have h91 := f91_eqn h (p := 8 * q) (by omega)
  have e : 8 * ra (8 * q) = 8 * q := by unfold ra; omega
  rw [e] at h91
  unfold f92
  dsimp only
  rw [if_neg (by rw [decide_eq_true_eq]; omega), h91, Option.bind_some]
  dsimp only
  have w0 : IntKind.wrap .i64 (((L.length : Nat) : Int) - ((8 * q : Nat) : Int)) = ((8 * (b.length - q) : Nat) : Int) := by rw [wrap_i64 (by omega)]; omega
  have w1 : Int.tdiv ((8 * (b.length - q) : Nat) : Int) 8 = ((b.length - q : Nat) : Int) := by
    rw [Int.tdiv_eq_ediv_of_nonneg (by omega)]; omega
  rw [w0, w1, wrap_i64 (by omega), if_pos (by rw [decide_eq_true_eq]; omega)]
theorem f92_eqn {b : List Int} {L : List Bool} (h : Rd b L) {q n : Nat} (hp : q + n ≤ b.length) :
    f92 ((n : Int), L, ((8 * q : Nat) : Int), ()) = some (0, L, ((8 * (q + n) : Nat) : Int), (b.drop q).take n, ()) := by
  have hl := h.len
  have hb := h.lim
  have h91 := f91_eqn h (p := 8 * q) (by omega)
  have e : 8 * ra (8 * q) = 8 * q := by unfold ra; omega
  rw [e] at h91
  obtain ⟨B, r1, r2, r3, r4⟩ := f49_spec (List.drop (8 * q) (List.take (8 * (q + n)) L)) (by rw [List.length_drop, List.length_take]; omega)
  have hB : B = (b.drop q).take n := by
    refine valB_inj r2 ((h.isB.drop q).take n) ?_ ?_
    · rw [r3, List.length_drop, List.length_take, List.length_take, List.length_drop]; omega
    · rw [r4, List.drop_take, nb_take _ (by rw [List.length_drop]; omega), nb_drop _ (by omega), h.num, valB_take (h.isB.drop q) (by rw [List.length_drop]; omega), valB_drop h.isB (by omega), pow256, pow256, show 8 * (q + n) - 8 * q = 8 * n by omega]
  subst hB
  unfold f92
  dsimp only
  rw [if_neg (by rw [decide_eq_true_eq]; omega), h91, Option.bind_some]
  dsimp only
  have w0 : IntKind.wrap .i64 (((L.length : Nat) : Int) - ((8 * q : Nat) : Int)) = ((8 * (b.length - q) : Nat) : Int) := by rw [wrap_i64 (by omega)]; omega
  have w1 : Int.tdiv ((8 * (b.length - q) : Nat) : Int) 8 = ((b.length - q : Nat) : Int) := by
    rw [Int.tdiv_eq_ediv_of_nonneg (by omega)]; omega
  have w2 : IntKind.wrap .i64 (8 * (n : Int)) = ((8 * n : Nat) : Int) := by rw [wrap_i64 (by omega)]; omega
  have w3 : IntKind.wrap .i64 (((8 * q : Nat) : Int) + ((8 * n : Nat) : Int)) = ((8 * (q + n) : Nat) : Int) := by rw [wrap_i64 (by omega)]; omega
  have w4 : IntKind.wrap .i64 (((8 * (q + n) : Nat) : Int) - ((8 * n : Nat) : Int)) = ((8 * q : Nat) : Int) := by rw [wrap_i64 (by omega)]; omega
  rw [w0, w1, w2, w3, w4, wrap_i64 (n := ((b.length - q : Nat) : Int)) (by omega), if_neg (by rw [decide_eq_true_eq]; omega), if_pos (by omega), if_pos (by omega), if_pos (by omega), if_pos (by omega), Int.toNat_natCast, Int.toNat_natCast, r1, Option.bind_some]
  dsimp only
  rw [if_pos rfl]
theorem f93_eqn (x : Int) {len : Int} (hlen : len ≤ 1000) (back : Int) {n : Nat} {most : Int} (hn : (n : Int) ≤ most) (hm : most ≤ 1048576) (L : List Bool) (a : Int) {T : List Tok} (hT : T.length ≤ n) :
    f93 (x, len, back, (n : Int), most, L, a, T, ()) = match addR most (x, len, back) n T with
      | .inl (n', T') => some (0, (n' : Int), most, L, a, T', ())
      | .inr e => some (e, (n : Int), most, L, a, T, ()) := by
  have h60 : f60 (x, len, back, ()) = some (max len 1, ()) := rfl
  have w1 : IntKind.wrap .i64 ((n : Int) + max len 1) = (n : Int) + max len 1 := wrap_i64 (by omega)
  unfold f93 addR
  dsimp only
  by_cases c1 : back > (n : Int)
  · rw [if_pos (decide_eq_true c1), if_pos c1, if_pos rfl]
  · rw [if_neg (fun h => c1 (of_decide_eq_true h)), if_neg c1, h60, Option.bind_some]
    dsimp only
    rw [w1]
    by_cases c2 : (n : Int) + max len 1 > most
    · rw [if_pos (decide_eq_true c2), if_pos c2, if_pos rfl]
    · have e1 : List.take 1 (List.drop 0 (List.set (List.replicate 1 ((0 : Int), (0 : Int), (0 : Int))) 0 (x, len, back))) = [(x, len, back)] := rfl
      rw [if_neg (fun h => c2 (of_decide_eq_true h)), if_neg c2, e1, full, if_pos (by rw [List.length_singleton]; omega), Option.bind_some]
      dsimp only
      rw [w1, if_pos rfl, show (n : Int) + max len 1 = ((n + max len.toNat 1 : Nat) : Int) by omega]
def EndsR (L : List Bool) (most : Int) (r : (Nat × List Tok × Nat) ⊕ Int) (o : Option go79.D) : Prop :=
  match r with
  | .inl (n, T, p) => o = some (0, (n : Int), most, L, (p : Int), T, ())
  | .inr e => e ≠ 0 ∧ ∃ z, o = some (e, z)
theorem l79_1_spec {bs : List Int} (hbs : IsB bs) (hbl : bs.length ≤ 100000) {most : Int} (hm : most ≤ 1048576) (L : List Bool) (a : Int) : ∀ (k i n : Nat) (T : List Tok), bs.length < i + k → i ≤ bs.length → ((n + (bs.length - i) : Nat) : Int) ≤ most → T.length ≤ n →
    loopN g79_1 o79_1 b79_1 k (((bs.length : Nat) : Int), bs, (i : Int), (n : Int), most, L, a, T, ()) = some (.inl (((n + (bs.length - i) : Nat) : Int), most, L, a, T ++ lits (bs.drop i), ())) := by
  intro k
  induction k with
  | zero => intro i n T h1 h2; omega
  | succ k ih =>
    intro i n T h1 h2 h3 h4
    rw [loopN_succ]
    generalize hX : loopN g79_1 o79_1 b79_1 k = X at ih ⊢
    unfold b79_1
    dsimp only
    rcases Nat.lt_or_ge i bs.length with h | h
    · have hx := hbs.get i
      rw [drop_getD h 0, if_pos (by rw [decide_eq_true_eq]; omega), if_pos (by omega), if_pos (by omega), Int.toNat_natCast, if_pos rfl]
      generalize bs.getD i 0 = x at hx ⊢
      have ha : addR most (x, 0, 0) n T = .inl (n + 1, T ++ [(x, 0, 0)]) := by
        unfold addR
        dsimp only
        rw [if_neg (by omega), if_neg (by omega)]
        rfl
      rw [wrap_i64 (n := x) (by omega), f93_eqn x (by omega) 0 (by omega) hm L a h4, ha, Option.bind_some]
      dsimp only
      rw [if_pos rfl, Option.bind_some, Sum.elim_inl, show IntKind.wrap .i64 ((i : Int) + 1) = ((i + 1 : Nat) : Int) by rw [wrap_i64 (by omega)]; omega]
      rw [ih (i + 1) _ _ (by omega) (by omega) (by omega) (by rw [List.length_append, List.length_singleton]; omega)]
      rw [List.append_assoc, show n + 1 + (bs.length - (i + 1)) = n + (bs.length - i) by omega]
      rfl
    · rw [List.drop_of_length_le h, if_neg (by rw [decide_eq_true_eq]; omega), if_pos rfl, show bs.length - i = 0 by omega]
      unfold lits
      rw [List.map_nil, List.append_nil]
      rfl
theorem xor_iff {a c : Nat} (ha : a < 65536) : a ^^^ c = 65535 ↔ a + c = 65535 := by
  have e : a ^^^ c = 65535 ↔ c = a ^^^ 65535 := by
    constructor
    · intro h
      rw [← h, ← Nat.xor_assoc, Nat.xor_self, Nat.zero_xor]
    · intro h
      rw [h, ← Nat.xor_assoc, Nat.xor_self, Nat.zero_xor]
  have e2 : a ^^^ 65535 = 65535 - a := by
    have h1 : a ^^^ 65535 = a ^^^ (2 ^ 16 - 1) := rfl
    have h2 : BitVec.toNat (~~~ (BitVec.ofNat 16 a)) = 65535 - a := by
      rw [BitVec.toNat_not, BitVec.toNat_ofNat]; omega
    have h3 : BitVec.toNat (BitVec.ofNat 16 a ^^^ BitVec.allOnes 16) = a ^^^ 65535 := by
      rw [BitVec.toNat_xor, BitVec.toNat_ofNat, Nat.mod_eq_of_lt (by omega)]
      rfl
    rw [← h3, BitVec.xor_allOnes, h2]
  rw [e, e2]
  omega
theorem f79_eqn {b : List Int} {L : List Bool} (h : Rd b L) {n : Nat} {most : Int} (hn : (n : Int) ≤ most) (hm : most ≤ 1048576) {T : List Tok} (hT : T.length ≤ n) {p : Nat} (hp : p ≤ 8 * b.length) :
    EndsR L most (storedR b most n T p) (f79 ((n : Int), most, L, (p : Int), T, ())) := by
  have hlim := h.lim
  have hA := f91_eqn h hp
  unfold storedR f79
  dsimp only
  rw [hA, Option.bind_some]
  dsimp only
  have hq : ra p ≤ b.length := by unfold ra; omega
  generalize ra p = q at hq ⊢
  have e16 : ((16 : Nat) : Int) = 16 := rfl
  by_cases c0 : 8 * b.length < 8 * q + 16
  · have h1 := f78_more h (p := 8 * q) (n := 16) (by omega) (by decide) c0
    rw [e16] at h1
    rw [if_pos (by omega), h1, Option.bind_some]
    dsimp only
    rw [if_pos (by decide), if_pos rfl]
    exact ⟨by decide, _, rfl⟩
  · have h1 := f78_eqn h (p := 8 * q) (n := 16) (by decide) (by omega)
    rw [e16] at h1
    rw [h1, Option.bind_some]
    dsimp only
    rw [if_neg (show ¬ (((0 : Int) != 0) = true) by decide)]
    by_cases c1 : 8 * b.length < 8 * q + 32
    · have h2 := f78_more h (p := 8 * q + 16) (n := 16) (by omega) (by decide) (by omega)
      rw [e16] at h2
      rw [if_pos c1, h2, Option.bind_some]
      dsimp only
      rw [if_pos (by decide), if_pos rfl]
      exact ⟨by decide, _, rfl⟩
    · have h2 := f78_eqn h (p := 8 * q + 16) (n := 16) (by decide) (by omega)
      rw [e16] at h2
      rw [if_neg c1, h2, Option.bind_some]
      dsimp only
      have b1 := bitsAt_lt b (8 * q) 16
      have b2 := bitsAt_lt b (8 * q + 16) 16
      generalize bitsAt b (8 * q) 16 = v0 at b1 ⊢
      generalize bitsAt b (8 * q + 16) 16 = v1 at b2 ⊢
      have hx := xor_iff (a := v0) (c := v1) (by omega)
      rw [if_neg (show ¬ (((0 : Int) != 0) = true) by decide), wrap_i64 (n := (v0 : Int) + (v1 : Int)) (by omega)]
      by_cases c3 : v0 ^^^ v1 = 65535
      · have c3' := hx.1 c3
        rw [if_neg (show ¬ (v0 ^^^ v1 ≠ 65535) from fun h => h c3), if_neg (show ¬ ((((v0 : Int) + (v1 : Int)) != 65535) = true) by rw [bne_iff_ne]; omega), show 8 * q + 16 + 16 = 8 * (q + 4) by omega]
        by_cases c4 : b.length < q + 4 + v0
        · rw [if_pos c4, f92_more h (by omega) (by omega) c4, Option.bind_some]
          dsimp only
          rw [if_pos (by decide), if_pos rfl]
          exact ⟨by decide, _, rfl⟩
        · have hlen : ((b.drop (q + 4)).take v0).length = v0 := by rw [List.length_take, List.length_drop]; omega
          rw [if_neg c4, f92_eqn h (by omega), Option.bind_some]
          dsimp only
          rw [if_neg (show ¬ (((0 : Int) != 0) = true) by decide), wrap_i64 (n := (n : Int) + (v0 : Int)) (by omega)]
          by_cases c5 : ((n + v0 : Nat) : Int) > most
          · rw [if_pos c5, if_pos (decide_eq_true (by omega)), if_pos rfl]
            exact ⟨by decide, _, rfl⟩
          · have hr := l79_1_spec (bs := (b.drop (q + 4)).take v0) ((h.isB.drop _).take _) (by omega) hm L ((8 * (q + 4 + v0) : Nat) : Int) FU 0 n T (by unfold FU; omega) (by omega) (by omega) hT
            rw [hlen, Nat.sub_zero, List.drop_zero] at hr
            have hr' : loopN g79_1 o79_1 b79_1 FU ((v0 : Int), (b.drop (q + 4)).take v0, 0, (n : Int), most, L, ((8 * (q + 4 + v0) : Nat) : Int), T, ()) = _ := hr
            have e3 : List.take ((b.drop (q + 4)).take v0).length (List.drop 0 ((b.drop (q + 4)).take v0)) = (b.drop (q + 4)).take v0 := full _
            rw [if_neg c5, if_neg (by rw [decide_eq_true_eq]; omega), if_pos rfl, e3, show l79_1 = loopN g79_1 o79_1 b79_1 FU from rfl, hr', Option.bind_some, Sum.elim_inl]
            dsimp only
            rw [if_pos rfl]
            rfl
      · rw [if_pos (show _ ≠ _ from c3), if_pos (by rw [bne_iff_ne]; intro h2; exact c3 (hx.2 (by omega))), if_pos rfl]
        exact ⟨by decide, _, rfl⟩
end Go.Ev.Zlib
namespace Go.Ev.Zlib
theorem f46_of {s : Nat} (h1 : 257 ≤ s) (h2 : s ≤ 285) : f46 ((s : Int), ()) = some (((lenB s).1 : Int), ((lenB s).2 : Int), ()) := by
  have h := f46_at (i := s - 257) (by omega)
  rw [show 257 + (s - 257) = s by omega] at h
  exact h
theorem l80_1_spec {l1 l2 : List Int} (hl1 : err l1 = 0) (hl2 : err l2 = 0) {b : List Int} {L : List Bool} (h : Rd b L) {most : Int} (hm : most ≤ 1048576) : ∀ (k n p : Nat) (T : List Tok), 8 * b.length < p + k → p ≤ 8 * b.length → T.length ≤ n → (n : Int) ≤ most →
    ∃ z, loopN g80_1 o80_1 b80_1 k (l1, l2, (n : Int), most, L, (p : Int), T, ()) = some (.inl z) ∧ EndsR L most (wordsR l1 l2 b most k n T p) (some z) := by
  have hbl := h.lim
  intro k
  induction k with
  | zero => intro n p T h1 h2; exfalso; omega
  | succ k ih =>
    intro n p T h1 h2 h3 h4
    rw [loopN_succ]
    generalize hX : loopN g80_1 o80_1 b80_1 k = X at ih ⊢
    unfold b80_1 wordsR wordR
    dsimp only
    rw [f94_eqn hl1 hbl h.len h.num h2, Option.bind_some]
    dsimp only
    have a1 := readH_le l1 b h2
    have a2 := readH_lt l1 b p
    have a3 := readH_sign l1 b p
    generalize readH l1 b p = q1 at a1 a2 a3 ⊢
    obtain ⟨s, e, p1⟩ := q1
    dsimp only at a1 a2 a3 ⊢
    by_cases c1 : e ≠ 0
    · rw [if_pos (bne_iff_ne.2 c1), if_pos rfl, if_pos c1]
      exact ⟨_, rfl, c1, _, rfl⟩
    · rw [if_neg (fun h => c1 (bne_iff_ne.1 h)), if_neg c1]
      by_cases c2 : s = 256
      · rw [if_pos (beq_iff_eq.2 c2), if_pos rfl, if_pos c2]
        exact ⟨_, rfl, rfl⟩
      · rw [if_neg (fun h => c2 (beq_iff_eq.1 h)), if_neg c2]
        obtain ⟨j, hj1, rfl⟩ : ∃ k : Nat, k < l1.length ∧ s = (k : Int) := by
          rcases a3 with ⟨k, b1, b2, _⟩ | a3 | a3
          · exact ⟨k, b1, b2⟩
          · omega
          · omega
        by_cases c4 : (j : Int) < 256
        · rw [if_pos (decide_eq_true c4), if_pos rfl, if_neg (show ¬ ((j : Int) > 285) by omega), if_pos c4, f93_eqn (j : Int) (len := 0) (by omega) 0 h4 hm L _ h3]
          dsimp only
          cases ha : addR most ((j : Int), 0, 0) n T with
          | inr e' =>
            have h0 := addR_inr ha
            rw [Option.bind_some]
            dsimp only
            rw [if_pos (bne_iff_ne.2 h0), if_pos rfl]
            exact ⟨_, rfl, h0, _, rfl⟩
          | inl z =>
            obtain ⟨n', T'⟩ := z
            obtain ⟨r1, r2, r3, r4⟩ := addR_inl ha
            dsimp only at r1 r2 r3 r4
            rw [Option.bind_some]
            dsimp only
            rw [if_neg (show ¬ (((0 : Int) != 0) = true) by decide), if_pos rfl, Option.bind_some, Sum.elim_inl]
            exact ih n' p1 T' (by omega) a1.2 (by rw [r4, List.length_append, List.length_singleton]; omega) (by omega)
        · rw [if_neg (fun h => c4 (of_decide_eq_true h))]
          by_cases c3 : (j : Int) > 285
          · rw [if_pos (decide_eq_true c3), if_pos rfl, if_pos c3]
            exact ⟨_, rfl, by decide, _, rfl⟩
          · rw [if_neg (fun h => c3 (of_decide_eq_true h)), if_neg c3, if_neg c4, f46_of (by omega) (by omega), Option.bind_some, Int.toNat_natCast]
            obtain ⟨L1, L2, L3⟩ := lenB_lim (s := j) (by omega) (by omega)
            generalize lenB j = lb at L1 L2 L3 ⊢
            obtain ⟨lb, lm⟩ := lb
            dsimp only at L1 L2 L3 ⊢
            by_cases c5 : 8 * b.length < p1 + lm
            · rw [if_pos c5, f78_more h a1.2 (by omega) c5, Option.bind_some]
              dsimp only
              rw [if_pos (show ((6 : Int) != 0) = true by decide), if_pos rfl]
              exact ⟨_, rfl, by decide, _, rfl⟩
            · have g0 : p1 + lm ≤ 8 * b.length := by omega
              rw [if_neg c5, f78_eqn h (by omega) g0, Option.bind_some]
              dsimp only
              rw [if_neg (show ¬ (((0 : Int) != 0) = true) by decide), f94_eqn hl2 hbl h.len h.num g0, Option.bind_some]
              dsimp only
              have d1 := readH_le l2 b g0
              have d3 := readH_sign l2 b (p1 + lm)
              generalize readH l2 b (p1 + lm) = q2 at d1 d3 ⊢
              obtain ⟨d, e2, p2⟩ := q2
              dsimp only at d1 d3 ⊢
              by_cases c6 : e2 ≠ 0
              · rw [if_pos (bne_iff_ne.2 c6), if_pos rfl, if_pos c6]
                exact ⟨_, rfl, c6, _, rfl⟩
              · rw [if_neg (fun h => c6 (bne_iff_ne.1 h)), if_neg c6]
                by_cases c7 : d ≥ 30
                · rw [if_pos (show decide (d > 29) = true by rw [decide_eq_true_eq]; omega), if_pos rfl, if_pos c7]
                  exact ⟨_, rfl, by decide, _, rfl⟩
                · rw [if_neg (show ¬ (decide (d > 29) = true) by rw [decide_eq_true_eq]; omega), if_neg c7]
                  obtain ⟨i, hi1, rfl⟩ : ∃ k : Nat, k < l2.length ∧ d = (k : Int) := by
                    rcases d3 with ⟨k, b1, b2, _⟩ | d3 | d3
                    · exact ⟨k, b1, b2⟩
                    · omega
                    · omega
                  rw [f48_at (by omega), Option.bind_some, Int.toNat_natCast]
                  obtain ⟨B1, B2, B3⟩ := bkB_lim (s := i) (by omega)
                  generalize bkB i = bb at B1 B2 B3 ⊢
                  obtain ⟨bb, bm⟩ := bb
                  dsimp only at B1 B2 B3 ⊢
                  by_cases c8 : 8 * b.length < p2 + bm
                  · rw [if_pos c8, f78_more h d1.2 (by omega) c8, Option.bind_some]
                    dsimp only
                    rw [if_pos (show ((6 : Int) != 0) = true by decide), if_pos rfl]
                    exact ⟨_, rfl, by decide, _, rfl⟩
                  · have g1 : p2 + bm ≤ 8 * b.length := by omega
                    have x1 := bitsAt_lt b p1 lm
                    have x2 := bitsAt_lt b p2 bm
                    rw [if_neg c8, f78_eqn h (by omega) g1, Option.bind_some]
                    generalize bitsAt b p1 lm = y1 at x1 ⊢
                    generalize bitsAt b p2 bm = y2 at x2 ⊢
                    have w1 : IntKind.wrap .i64 ((lb : Int) + (y1 : Int)) = ((lb + y1 : Nat) : Int) := by rw [wrap_i64 (by omega)]; omega
                    have w2 : IntKind.wrap .i64 ((bb : Int) + (y2 : Int)) = ((bb + y2 : Nat) : Int) := by rw [wrap_i64 (by omega)]; omega
                    dsimp only
                    rw [if_neg (show ¬ (((0 : Int) != 0) = true) by decide), if_pos rfl, w1, w2, f93_eqn 0 (len := ((lb + y1 : Nat) : Int)) (by omega) ((bb + y2 : Nat) : Int) h4 hm L _ h3]
                    cases ha : addR most (0, ((lb + y1 : Nat) : Int), ((bb + y2 : Nat) : Int)) n T with
                    | inr e' =>
                      have h0 := addR_inr ha
                      dsimp only
                      rw [Option.bind_some]
                      dsimp only
                      rw [if_pos (bne_iff_ne.2 h0), if_pos rfl]
                      exact ⟨_, rfl, h0, _, rfl⟩
                    | inl z =>
                      obtain ⟨n', T'⟩ := z
                      obtain ⟨r1, r2, r3, r4⟩ := addR_inl ha
                      dsimp only at r1 r2 r3 r4 ⊢
                      rw [Option.bind_some]
                      dsimp only
                      rw [if_neg (show ¬ (((0 : Int) != 0) = true) by decide), if_pos rfl, Option.bind_some, Sum.elim_inl]
                      exact ih n' (p2 + bm) T' (by omega) g1 (by rw [r4, List.length_append, List.length_singleton]; omega) (by omega)
theorem f80_eqn {l1 l2 : List Int} (hl1 : err l1 = 0) (hl2 : err l2 = 0) {b : List Int} {L : List Bool} (h : Rd b L) {most : Int} (hm : most ≤ 1048576) {n p : Nat} {T : List Tok} (hp : p ≤ 8 * b.length) (hT : T.length ≤ n) (hn : (n : Int) ≤ most) :
    EndsR L most (wordsR l1 l2 b most FU n T p) (f80 (l1, l2, (n : Int), most, L, (p : Int), T, ())) := by
  have hbl := h.lim
  obtain ⟨z, h1, h2⟩ := l80_1_spec hl1 hl2 h hm FU n p T (by unfold FU; omega) hp hT hn
  unfold f80
  dsimp only
  rw [if_pos rfl, show l80_1 = loopN g80_1 o80_1 b80_1 FU from rfl, h1, Option.bind_some, Sum.elim_inl, if_pos rfl]
  exact h2
end Go.Ev.Zlib
namespace Go.Ev.Zlib
theorem l81_1_spec {b : List Int} {L : List Bool} (h : Rd b L) (x0 x1 : Int) {c : Nat} (hc : c ≤ 15) (n most : Int) (T : List Tok) : ∀ (k i p : Nat) (few : List Int), c + 4 < i + k → i ≤ c + 4 → p ≤ 8 * b.length → few.length = 19 →
    (match fewR b ((ord19.take (c + 4)).drop i) few p with
    | .inl (few', p') => loopN g81_1 o81_1 b81_1 k (x0, x1, (c : Int), ord19, (i : Int), n, most, L, (p : Int), few, T, ()) = some (.inl (x0, x1, n, most, L, (p' : Int), few', T, ()))
    | .inr e => e ≠ 0 ∧ ∃ z, loopN g81_1 o81_1 b81_1 k (x0, x1, (c : Int), ord19, (i : Int), n, most, L, (p : Int), few, T, ()) = some (.inr (.inl (e, z)))) := by
  have hlim := h.lim
  have ho : ord19.length = 19 := rfl
  have hol : (ord19.take (c + 4)).length = c + 4 := by rw [List.length_take, ho]; omega
  intro k
  induction k with
  | zero => intro i p few h1 h2; exfalso; omega
  | succ k ih =>
    intro i p few h1 h2 h3 h4
    rw [loopN_succ]
    generalize hX : loopN g81_1 o81_1 b81_1 k = X at ih ⊢
    unfold b81_1
    dsimp only
    have w : IntKind.wrap .i64 ((c : Int) + 4) = ((c + 4 : Nat) : Int) := by rw [wrap_i64 (by omega)]; omega
    rw [w]
    rcases Nat.lt_or_ge i (c + 4) with hi | hi
    · have hm : (ord19.take (c + 4)).getD i 0 ∈ ord19.take (c + 4) := by
        rw [List.getD_eq_getElem?_getD, List.getElem?_eq_getElem (by rw [hol]; exact hi)]
        exact List.getElem_mem _
      have ha := ord_mem _ hm
      have hg : ord19.getD i 0 = (ord19.take (c + 4)).getD i 0 := by
        rw [List.getD_eq_getElem?_getD, List.getD_eq_getElem?_getD, List.getElem?_take_of_lt hi]
      rw [drop_getD (by rw [hol]; exact hi) 0, if_pos (by rw [decide_eq_true_eq]; omega), Int.toNat_natCast, hg]
      generalize (ord19.take (c + 4)).getD i 0 = x at ha ⊢
      unfold fewR
      have e3 : ((3 : Nat) : Int) = 3 := rfl
      by_cases c1 : 8 * b.length < p + 3
      · have hf := f78_more h h3 (n := 3) (by decide) c1
        rw [e3] at hf
        rw [if_pos c1, hf, Option.bind_some]
        dsimp only
        rw [if_pos (by decide), if_pos rfl]
        exact ⟨by decide, _, rfl⟩
      · have hf := f78_eqn h (p := p) (n := 3) (by decide) (by omega)
        rw [e3] at hf
        rw [if_neg c1, hf, Option.bind_some]
        dsimp only
        rw [if_neg (show ¬ (((0 : Int) != 0) = true) by decide), if_pos (show (0 : Int) ≤ (i : Int) by omega), if_pos (show (i : Int) < ((ord19.length : Nat) : Int) by rw [ho]; omega), if_pos ha.1, if_pos (show x < ((few.length : Nat) : Int) by rw [h4]; exact ha.2), if_pos (by rw [List.length_set]), if_pos rfl, Nat.zero_add, Option.bind_some, Sum.elim_inl,
          show IntKind.wrap .i64 ((i : Int) + 1) = ((i + 1 : Nat) : Int) by rw [wrap_i64 (by omega)]; omega]
        exact ih (i + 1) (p + 3) _ (by omega) (by omega) (by omega) (by rw [List.length_set]; exact h4)
    · rw [List.drop_of_length_le (by rw [hol]; exact hi), if_neg (by rw [decide_eq_true_eq]; omega), if_pos rfl, if_pos rfl]
      rfl
theorem l81_6_spec (x0 : Int) (few : List Int) (x2 : Int) (least v : Nat) (what n most : Int) (L : List Bool) (p : Int) (T : List Tok) (hs : least + v ≤ 1000) : ∀ (k i : Nat) (o : List Int), least + v < i + k → i ≤ least + v → o.length ≤ 2000 + i →
    loopN g81_6 o81_6 b81_6 k (x0, few, x2, (least : Int), what, (v : Int), (i : Int), n, most, L, p, o, T, ()) = some (.inl (x0, few, x2, n, most, L, p, o ++ List.replicate (least + v - i) what, T, ())) := by
  intro k
  induction k with
  | zero => intro i o h; omega
  | succ k ih =>
    intro i o h1 h2 h3
    rw [loopN_succ]
    generalize hX : loopN g81_6 o81_6 b81_6 k = X at ih ⊢
    unfold b81_6
    dsimp only
    have w : IntKind.wrap .i64 ((least : Int) + (v : Int)) = ((least + v : Nat) : Int) := by rw [wrap_i64 (by omega)]; omega
    have e1 : List.take 1 (List.drop 0 (List.set (List.replicate 1 (0 : Int)) 0 what)) = [what] := rfl
    rw [w, e1]
    rcases Nat.lt_or_ge i (least + v) with h | h
    · rw [if_pos (by rw [decide_eq_true_eq]; omega), full, if_pos (by rw [List.length_singleton]; omega), if_pos rfl, if_pos rfl, Option.bind_some, Sum.elim_inl, show IntKind.wrap .i64 ((i : Int) + 1) = ((i + 1 : Nat) : Int) by rw [wrap_i64 (by omega)]; omega]
      have := ih (i + 1) (o ++ [what]) (by omega) (by omega) (by rw [List.length_append, List.length_singleton]; omega)
      rw [List.append_assoc, List.singleton_append, ← List.replicate_succ, show least + v - (i + 1) + 1 = least + v - i by omega] at this
      exact this
    · rw [if_neg (by rw [decide_eq_true_eq]; omega), if_pos rfl, if_pos rfl, show least + v - i = 0 by omega, List.replicate_zero, List.append_nil]
      rfl
theorem b81_3_eqn (x0 : Int) (few : List Int) (x2 : Int) (j : Nat) (n most : Int) (L : List Bool) (p : Int) (o : List Int) (T : List Tok) (ho : o.length ≤ 1000) :
    b81_3 (x0, few, x2, (j : Int), 2, 3, 0, n, most, L, p, o, T, ()) = if (j : Int) = 16 ∧ o.length = 0 then some (.inl (4, n, most, L, p, T, ())) else some (.inr (.inl (x0, few, x2, (j : Int), 2, 3, (if (j : Int) = 16 then o.getD (o.length - 1) 0 else 0), n, most, L, p, o, T, ()))) := by
  unfold b81_3
  dsimp only
  by_cases c : (j : Int) = 16
  · rw [if_pos (beq_iff_eq.2 c)]
    by_cases c2 : o.length = 0
    · rw [if_pos (show (((o.length : Nat) : Int) == 0) = true by rw [beq_iff_eq]; omega), if_pos rfl, if_pos ⟨c, c2⟩]
    · have e : IntKind.wrap .i64 (((o.length : Nat) : Int) - 1) = ((o.length - 1 : Nat) : Int) := by rw [wrap_i64 (by omega)]; omega
      rw [if_neg (show ¬ ((((o.length : Nat) : Int) == 0) = true) by rw [beq_iff_eq]; omega), e, if_pos (by omega), if_pos (by omega), if_pos rfl, if_pos rfl, if_neg (fun h => c2 h.2), if_pos c, Int.toNat_natCast, Nat.zero_add]
  · rw [if_neg (fun h => c (beq_iff_eq.1 h)), if_pos rfl, if_pos rfl, if_neg (fun h => c h.1), if_neg c]
theorem b81_45 (x0 : Int) (few : List Int) (x2 : Int) {j : Nat} (h1 : 16 ≤ j) (h2 : j ≤ 18) (what n most : Int) (L : List Bool) (p : Int) (o : List Int) (T : List Tok) :
    ∃ y, b81_4 (x0, few, x2, (j : Int), 2, 3, what, n, most, L, p, o, T, ()) = some (.inl (x0, few, x2, (j : Int), y, 3, what, n, most, L, p, o, T, ())) ∧
      b81_5 (x0, few, x2, (j : Int), y, 3, what, n, most, L, p, o, T, ()) = some (.inl (x0, few, x2, ((repB j).1 : Int), ((repB j).2 : Int), what, n, most, L, p, o, T, ())) := by
  have hj : j = 16 ∨ j = 17 ∨ j = 18 := by omega
  unfold b81_4 b81_5
  dsimp only
  rcases hj with rfl | rfl | rfl
  · refine ⟨2, ?_, ?_⟩
    · rw [if_neg (by decide), if_pos rfl, if_pos rfl]
    · rw [if_neg (by decide), if_pos rfl, if_pos rfl]; rfl
  · refine ⟨3, ?_, ?_⟩
    · rw [if_pos (by decide), if_pos rfl, if_pos rfl]
    · rw [if_neg (by decide), if_pos rfl, if_pos rfl]; rfl
  · refine ⟨2, ?_, ?_⟩
    · rw [if_neg (by decide), if_pos rfl, if_pos rfl]
    · rw [if_pos (by decide), if_pos rfl, if_pos rfl]; rfl
theorem l81_2_spec {few : List Int} (hf : err few = 0) (hf19 : few.length = 19) {b : List Int} {L : List Bool} (h : Rd b L) {all : Nat} (hall : all ≤ 400) (x0 n most : Int) (T : List Tok) : ∀ (k p : Nat) (o : List Int), 8 * b.length < p + k → p ≤ 8 * b.length → o.length ≤ all →
    (match lensR few b all k o p with
    | .inl (o', p') => loopN g81_2 o81_2 b81_2 k (x0, few, (all : Int), n, most, L, (p : Int), o, T, ()) = some (.inl (x0, n, most, L, (p' : Int), o', T, ()))
    | .inr e => e ≠ 0 ∧ ∃ z, loopN g81_2 o81_2 b81_2 k (x0, few, (all : Int), n, most, L, (p : Int), o, T, ()) = some (.inr (.inl (e, z)))) := by
  have hlim := h.lim
  intro k
  induction k with
  | zero => intro p o h1 h2; exfalso; omega
  | succ k ih =>
    intro p o h1 h2 h3
    rw [loopN_succ]
    generalize hX : loopN g81_2 o81_2 b81_2 k = X at ih ⊢
    unfold lensR
    by_cases c : all ≤ o.length
    · rw [if_pos c]
      dsimp only
      unfold b81_2
      dsimp only
      rw [if_neg (by rw [decide_eq_true_eq]; omega), if_pos rfl, if_pos rfl]
      rfl
    · rw [if_neg c]
      have hnx := fun (o' : List Int) (p' : Nat) => lenR_inl (few := few) (b := b) (o := o) (all := all) h2 (by omega) (o' := o') (p' := p')
      unfold lenR at hnx ⊢
      unfold b81_2
      dsimp only
      rw [if_pos (show decide (((o.length : Nat) : Int) < (all : Int)) = true by rw [decide_eq_true_eq]; omega), f94_eqn hf hlim h.len h.num h2, Option.bind_some]
      have a1 := readH_le few b h2
      have a3 := readH_sign few b p
      generalize readH few b p = q1 at a1 a3 hnx ⊢
      obtain ⟨s, e, p1⟩ := q1
      dsimp only at a1 a3 hnx ⊢
      by_cases c1 : e ≠ 0
      · rw [if_pos c1, if_pos (bne_iff_ne.2 c1), if_pos rfl]
        exact ⟨c1, _, rfl⟩
      · rw [if_neg c1] at hnx
        rw [if_neg c1, if_neg (fun h => c1 (bne_iff_ne.1 h))]
        have e1 : List.take 1 (List.drop 0 (List.set (List.replicate 1 (0 : Int)) 0 s)) = [s] := rfl
        by_cases c2 : s < 16
        · rw [if_pos c2] at hnx
          rw [if_pos c2, if_pos (decide_eq_true c2), e1, full, if_pos (by rw [List.length_singleton]; omega), if_pos rfl, if_pos rfl, Option.bind_some, Sum.elim_inl]
          obtain ⟨k1, k2, k3⟩ := hnx _ _ rfl
          exact ih p1 (o ++ [s]) (by omega) k2 k3
        · rw [if_neg c2] at hnx
          obtain ⟨j, hj1, rfl⟩ : ∃ k : Nat, k < few.length ∧ s = (k : Int) := by
            rcases a3 with ⟨k, b1, b2, _⟩ | a3 | a3
            · exact ⟨k, b1, b2⟩
            · omega
            · omega
          rw [if_neg c2, if_neg (fun h => c2 (of_decide_eq_true h)), if_pos rfl, if_pos rfl, b81_3_eqn _ _ _ _ _ _ _ _ _ _ (by omega)]
          by_cases c3 : (j : Int) = 16 ∧ o.length = 0
          · rw [if_pos c3, if_pos c3, Option.bind_some, Sum.elim_inl]
            dsimp only
            rw [if_pos rfl]
            exact ⟨by decide, _, rfl⟩
          · rw [if_neg c3] at hnx
            rw [if_neg c3, if_neg c3, Option.bind_some, Sum.elim_inr, Sum.elim_inl]
            dsimp only
            generalize (if (j : Int) = 16 then o.getD (o.length - 1) 0 else 0) = wv at hnx ⊢
            obtain ⟨y, y1, y2⟩ := b81_45 x0 few (all : Int) (j := j) (by omega) (by omega) wv n most L (p1 : Int) o T
            rw [if_pos rfl, if_pos rfl, y1, Option.bind_some, Sum.elim_inl]
            dsimp only
            rw [if_pos rfl, if_pos rfl, y2, Option.bind_some, Sum.elim_inl]
            dsimp only
            rw [Int.toNat_natCast] at hnx ⊢
            obtain ⟨r1, r2, r3⟩ := repB_lim j
            generalize repB j = rp at r1 r2 r3 hnx ⊢
            obtain ⟨more, least⟩ := rp
            dsimp only at r1 r2 r3 hnx ⊢
            by_cases c4 : 8 * b.length < p1 + more
            · rw [if_pos c4, f78_more h a1.2 (by omega) c4, Option.bind_some]
              dsimp only
              rw [if_pos (show ((6 : Int) != 0) = true by decide), if_pos rfl]
              exact ⟨by decide, _, rfl⟩
            · have g0 : p1 + more ≤ 8 * b.length := by omega
              rw [if_neg c4] at hnx
              rw [if_neg c4, f78_eqn h (by omega) g0, Option.bind_some]
              dsimp only
              have x1 := bitsAt_lt b p1 more
              have x2 : (2 : Nat) ^ more ≤ 2 ^ 7 := Nat.pow_le_pow_right (by omega) r3
              have x3 : (2 : Nat) ^ 7 = 128 := rfl
              generalize bitsAt b p1 more = y1' at x1 hnx ⊢
              have w1 : IntKind.wrap .i64 (IntKind.wrap .i64 (((o.length : Nat) : Int) + (least : Int)) + (y1' : Int)) = ((o.length + least + y1' : Nat) : Int) := by
                rw [wrap_i64 (n := ((o.length : Nat) : Int) + (least : Int)) (by omega), wrap_i64 (by omega)]; omega
              rw [if_neg (show ¬ (((0 : Int) != 0) = true) by decide), w1]
              by_cases c5 : all < o.length + least + y1'
              · rw [if_pos c5, if_pos (show decide (((o.length + least + y1' : Nat) : Int) > (all : Int)) = true by rw [decide_eq_true_eq]; omega), if_pos rfl]
                exact ⟨by decide, _, rfl⟩
              · have r6 := l81_6_spec x0 few (all : Int) least y1' wv n most L ((p1 + more : Nat) : Int) T (by omega) FU 0 o (by unfold FU; omega) (Nat.zero_le _) (by omega)
                rw [Nat.sub_zero] at r6
                have r6' : loopN g81_6 o81_6 b81_6 FU (x0, few, (all : Int), (least : Int), wv, (y1' : Int), 0, n, most, L, ((p1 + more : Nat) : Int), o, T, ()) = _ := r6
                rw [if_neg c5] at hnx
                rw [if_neg c5, if_neg (show ¬ (decide (((o.length + least + y1' : Nat) : Int) > (all : Int)) = true) by rw [decide_eq_true_eq]; omega), if_pos rfl, if_pos rfl, show l81_6 = loopN g81_6 o81_6 b81_6 FU from rfl, r6', Option.bind_some, Sum.elim_inl]
                dsimp only
                rw [if_pos rfl, if_pos rfl, Option.bind_some, Sum.elim_inl]
                obtain ⟨k1, k2, k3⟩ := hnx _ _ rfl
                exact ih (p1 + more) _ (by omega) k2 k3
set_option maxHeartbeats 4000000 in
theorem f81_eqn {b : List Int} {L : List Bool} (h : Rd b L) {most : Int} (hm : most ≤ 1048576) {n : Nat} {T : List Tok} (hI : Inv most n T) {p : Nat} (hp : p ≤ 8 * b.length) :
    EndsR L most (ownR b most n T p) (f81 ((n : Int), most, L, (p : Int), T, ())) := by
  have hlim := h.lim
  have e5 : ((5 : Nat) : Int) = 5 := rfl
  have e4 : ((4 : Nat) : Int) = 4 := rfl
  unfold ownR f81
  dsimp only
  by_cases c0 : 8 * b.length < p + 5
  · have h1 := f78_more h hp (n := 5) (by decide) c0
    rw [e5] at h1
    rw [if_pos (by omega), h1, Option.bind_some]
    dsimp only
    rw [if_pos (by decide), if_pos rfl]
    exact ⟨by decide, _, rfl⟩
  have h1 := f78_eqn h (p := p) (n := 5) (by decide) (by omega)
  rw [e5] at h1
  rw [h1, Option.bind_some]
  dsimp only
  rw [if_neg (show ¬ (((0 : Int) != 0) = true) by decide)]
  by_cases c00 : 8 * b.length < p + 10
  · have h2 := f78_more h (p := p + 5) (by omega) (n := 5) (by decide) (by omega)
    rw [e5] at h2
    rw [if_pos (by omega), h2, Option.bind_some]
    dsimp only
    rw [if_pos (by decide), if_pos rfl]
    exact ⟨by decide, _, rfl⟩
  have h2 := f78_eqn h (p := p + 5) (n := 5) (by decide) (by omega)
  rw [e5] at h2
  rw [h2, Option.bind_some]
  dsimp only
  rw [if_neg (show ¬ (((0 : Int) != 0) = true) by decide), show p + 5 + 5 = p + 10 by omega]
  by_cases c1 : 8 * b.length < p + 14
  · have h3 := f78_more h (p := p + 10) (by omega) (n := 4) (by decide) (by omega)
    rw [e4] at h3
    rw [if_pos c1, h3, Option.bind_some]
    dsimp only
    rw [if_pos (by decide), if_pos rfl]
    exact ⟨by decide, _, rfl⟩
  have h3 := f78_eqn h (p := p + 10) (n := 4) (by decide) (by omega)
  rw [e4] at h3
  rw [if_neg c1, h3, Option.bind_some]
  dsimp only
  have b0 := bitsAt_lt b p 5
  have b1 := bitsAt_lt b (p + 5) 5
  have b2 := bitsAt_lt b (p + 10) 4
  generalize bitsAt b p 5 = v0 at b0 ⊢
  generalize bitsAt b (p + 5) 5 = v1 at b1 ⊢
  generalize bitsAt b (p + 10) 4 = v2 at b2 ⊢
  have w0 : IntKind.wrap .i64 ((v0 : Int) + 257) = ((v0 + 257 : Nat) : Int) := by rw [wrap_i64 (by omega)]; omega
  have w1 : IntKind.wrap .i64 ((v1 : Int) + 1) = ((v1 + 1 : Nat) : Int) := by rw [wrap_i64 (by omega)]; omega
  rw [if_neg (show ¬ (((0 : Int) != 0) = true) by decide), w0, w1]
  by_cases c2 : 29 < v0 ∨ 29 < v1
  · rw [if_pos c2]
    by_cases c3 : 29 < v0
    · rw [if_pos (show decide (((v0 + 257 : Nat) : Int) > 286) = true by rw [decide_eq_true_eq]; omega), if_pos rfl]
      exact ⟨by decide, _, rfl⟩
    · rw [if_neg (show ¬ (decide (((v0 + 257 : Nat) : Int) > 286) = true) by rw [decide_eq_true_eq]; omega), if_pos (show decide (((v1 + 1 : Nat) : Int) > 30) = true by rw [decide_eq_true_eq]; omega), if_pos rfl]
      exact ⟨by decide, _, rfl⟩
  rw [if_neg c2, if_neg (show ¬ (decide (((v0 + 257 : Nat) : Int) > 286) = true) by rw [decide_eq_true_eq]; omega), if_neg (show ¬ (decide (((v1 + 1 : Nat) : Int) > 30) = true) by rw [decide_eq_true_eq]; omega), if_pos rfl, ord_eq, show List.take 19 ord19 = ord19 from rfl]
  have hf := l81_1_spec h (v0 : Int) (v1 : Int) (c := v2) (by omega) (n : Int) most T FU 0 (p + 14) (List.replicate 19 0) (by unfold FU; omega) (Nat.zero_le _) (by omega) (List.length_replicate ..)
  rw [List.drop_zero, show ((0 : Nat) : Int) = 0 from rfl] at hf
  have hfl := fun few' p' => fewR_lim (b := b) (ord19.take (v2 + 4)) (List.replicate 19 0) (p + 14) (by omega) few' p'
  rw [show l81_1 = loopN g81_1 o81_1 b81_1 FU from rfl, show p + 10 + 4 = p + 14 by omega]
  generalize fewR b (ord19.take (v2 + 4)) (List.replicate 19 0) (p + 14) = r at hf hfl ⊢
  cases r with
  | inr e =>
    obtain ⟨h0, z, hz⟩ := hf
    rw [hz, Option.bind_some, Sum.elim_inr, Sum.elim_inl]
    dsimp only
    rw [if_pos rfl]
    exact ⟨h0, _, rfl⟩
  | inl r =>
    obtain ⟨few, p1⟩ := r
    obtain ⟨f1, f2, f3⟩ := hfl few p1 rfl
    dsimp only at hf ⊢
    rw [hf, Option.bind_some, Sum.elim_inl]
    dsimp only
    rw [full, f95_eqn, Option.bind_some]
    dsimp only
    by_cases c4 : errM few ≠ 0
    · rw [if_pos c4, if_pos (bne_iff_ne.2 c4), if_pos rfl]
      exact ⟨c4, _, rfl⟩
    · have c4' : errM few = 0 := Decidable.not_not.1 c4
      have w3 : IntKind.wrap .i64 (IntKind.wrap .i64 (((v0 + 257 : Nat) : Int) + (v1 : Int)) + 1) = ((v0 + 257 + (v1 + 1) : Nat) : Int) := by rw [wrap_i64 (n := ((v0 + 257 : Nat) : Int) + (v1 : Int)) (by omega), wrap_i64 (by omega)]; omega
      have hl := l81_2_spec (err_of c4') (by rw [f3, List.length_replicate]) h (all := v0 + 257 + (v1 + 1)) (by omega) (v0 : Int) (n : Int) most T FU p1 [] (by unfold FU; omega) f2 (Nat.zero_le _)
      have hll := fun l p2 => lensR_lim (few := few) (b := b) (all := v0 + 257 + (v1 + 1)) FU [] p1 f2 (Nat.zero_le _) l p2
      rw [if_neg c4, if_neg (fun h => c4 (bne_iff_ne.1 h)), if_pos rfl, w0, w3, show l81_2 = loopN g81_2 o81_2 b81_2 FU from rfl]
      try rw [full few]
      generalize lensR few b (v0 + 257 + (v1 + 1)) FU [] p1 = r at hl hll ⊢
      cases r with
      | inr e =>
        obtain ⟨h0, z, hz⟩ := hl
        rw [hz, Option.bind_some, Sum.elim_inr, Sum.elim_inl]
        dsimp only
        rw [if_pos rfl]
        exact ⟨h0, _, rfl⟩
      | inl r =>
        obtain ⟨l, p2⟩ := r
        obtain ⟨k1, k2, k3⟩ := hll l p2 rfl
        dsimp only at hl ⊢
        have et : List.take (v0 + 257 - 0) (List.drop 0 l) = l.take (v0 + 257) := by rw [Nat.sub_zero, List.drop_zero]
        have ed : List.take (l.length - (v0 + 257)) (List.drop (0 + (v0 + 257)) l) = l.drop (v0 + 257) := by rw [Nat.zero_add, List.take_of_length_le (by rw [List.length_drop]; exact Nat.le_refl _)]
        rw [hl, Option.bind_some, Sum.elim_inl]
        dsimp only
        rw [w0, Int.toNat_natCast, et, ed]
        unfold tabsR
        rw [if_pos (show (256 : Int) < ((l.length : Nat) : Int) by rw [k3]; omega)]
        by_cases c5 : l.getD 256 0 = 0
        · rw [if_pos c5, if_pos (show (l.getD 256 0 == 0) = true from beq_iff_eq.2 c5), if_pos rfl]
          exact ⟨by decide, _, rfl⟩
        · rw [if_neg c5, if_neg (show ¬ ((l.getD 256 0 == 0) = true) from fun h => c5 (beq_iff_eq.1 h)), if_pos (show (0 : Int) ≤ ((v0 + 257 : Nat) : Int) by omega), if_pos (show ((v0 + 257 : Nat) : Int) ≤ ((l.length : Nat) : Int) by rw [k3]; omega), f95_eqn, Option.bind_some]
          dsimp only
          by_cases c6 : errM (l.take (v0 + 257)) ≠ 0
          · rw [if_pos c6, if_pos (bne_iff_ne.2 c6), if_pos rfl]
            exact ⟨c6, _, rfl⟩
          · rw [if_neg c6, if_neg (fun h => c6 (bne_iff_ne.1 h)), if_pos (show (0 : Int) ≤ ((v0 + 257 : Nat) : Int) by omega), if_pos (show ((v0 + 257 : Nat) : Int) ≤ ((l.length : Nat) : Int) by rw [k3]; omega), f95_eqn, Option.bind_some]
            dsimp only
            by_cases c7 : errM (l.drop (v0 + 257)) ≠ 0
            · rw [if_pos c7, if_pos (bne_iff_ne.2 c7), if_pos rfl]
              exact ⟨c7, _, rfl⟩
            · have hw := f80_eqn (err_of (Decidable.not_not.1 c6)) (err_of (Decidable.not_not.1 c7)) h hm k2 hI.len hI.lim
              rw [if_neg c7, if_neg (fun h => c7 (bne_iff_ne.1 h)), if_pos (show (0 : Int) ≤ ((v0 + 257 : Nat) : Int) by omega), if_pos (show ((v0 + 257 : Nat) : Int) ≤ ((l.length : Nat) : Int) by rw [k3]; omega), if_pos (show (0 : Int) ≤ ((v0 + 257 : Nat) : Int) by omega), if_pos (show ((v0 + 257 : Nat) : Int) ≤ ((l.length : Nat) : Int) by rw [k3]; omega), if_pos rfl]
              generalize f80 (l.take (v0 + 257), l.drop (v0 + 257), (n : Int), most, L, (p2 : Int), T, ()) = X at hw ⊢
              generalize wordsR (l.take (v0 + 257)) (l.drop (v0 + 257)) b most FU n T p2 = r at hw ⊢
              cases r with
              | inl r =>
                obtain ⟨n', T', p'⟩ := r
                have hw' : X = _ := hw
                subst hw'
                rw [Option.bind_some]
                dsimp only
                rw [if_pos rfl]
                rfl
              | inr e =>
                obtain ⟨h0, z, hw'⟩ := hw
                subst hw'
                rw [Option.bind_some]
                dsimp only
                rw [if_pos rfl]
                exact ⟨h0, _, rfl⟩
end Go.Ev.Zlib
namespace Go.Ev.Zlib
theorem l59_1_spec (x0 n most : Int) (L : List Bool) (p : Int) (T : List Tok) : ∀ (k i : Nat), i ≤ 32 → 32 < i + k → loopN g59_1 o59_1 b59_1 k (x0, (i : Int), n, most, L, p, List.replicate i 5, T, ()) = some (.inl (x0, n, most, L, p, fixD, T, ())) := by
  intro k
  induction k with
  | zero => intro i h1 h2; omega
  | succ k ih =>
    intro i h1 h2
    rw [loopN_succ]
    generalize hX : loopN g59_1 o59_1 b59_1 k = X at ih ⊢
    unfold b59_1
    dsimp only
    rcases Nat.lt_or_ge i 32 with h | h
    · have e1 : List.take 1 (List.drop 0 (List.set (List.replicate 1 (0 : Int)) 0 5)) = [5] := rfl
      have e2 : List.replicate i (5 : Int) ++ [5] = List.replicate (i + 1) 5 := by rw [List.replicate_succ']
      rw [if_pos (by rw [decide_eq_true_eq]; omega), e1, full, if_pos (by rw [List.length_replicate]; omega), if_pos rfl, if_pos rfl, e2, Option.bind_some, Sum.elim_inl, show IntKind.wrap .i64 ((i : Int) + 1) = ((i + 1 : Nat) : Int) by rw [wrap_i64 (by omega)]; omega]
      exact ih (i + 1) (by omega) (by omega)
    · have e : i = 32 := by omega
      subst e
      rw [if_neg (show ¬ (decide (((32 : Nat) : Int) < 32) = true) by decide), if_pos rfl, if_pos rfl]
      rfl
theorem f59_eqn {b : List Int} {L : List Bool} (h : Rd b L) {most : Int} (hm : most ≤ 1048576) {n : Nat} {T : List Tok} (hI : Inv most n T) {p : Nat} (hp : p ≤ 8 * b.length) :
    (if 8 * b.length < p + 3 then ∃ l z, f59 ((n : Int), most, L, (p : Int), T, ()) = some (l, 6, z)
    else match kindR b most (bitsAt b (p + 1) 2) n T (p + 3) with
      | .inl (n', T', p') => f59 ((n : Int), most, L, (p : Int), T, ()) = some (decide (bitsAt b p 1 = 1), 0, (n' : Int), most, L, (p' : Int), T', ())
      | .inr e => e ≠ 0 ∧ ∃ l z, f59 ((n : Int), most, L, (p : Int), T, ()) = some (l, e, z)) := by
  have hlim := h.lim
  have e1 : ((1 : Nat) : Int) = 1 := rfl
  have e2 : ((2 : Nat) : Int) = 2 := rfl
  unfold f59
  dsimp only
  by_cases c0 : 8 * b.length < p + 1
  · have h1 := f78_more h hp (n := 1) (by decide) c0
    rw [e1] at h1
    rw [if_pos (by omega), h1, Option.bind_some]
    dsimp only
    rw [if_pos (by decide), if_pos rfl]
    exact ⟨_, _, rfl⟩
  have h1 := f78_eqn h (p := p) (n := 1) (by decide) (by omega)
  rw [e1] at h1
  rw [h1, Option.bind_some]
  dsimp only
  rw [if_neg (show ¬ (((0 : Int) != 0) = true) by decide)]
  by_cases c1 : 8 * b.length < p + 3
  · have h2 := f78_more h (p := p + 1) (by omega) (n := 2) (by decide) (by omega)
    rw [e2] at h2
    rw [if_pos c1, h2, Option.bind_some]
    dsimp only
    rw [if_pos (by decide), if_pos rfl]
    exact ⟨_, _, rfl⟩
  have h2 := f78_eqn h (p := p + 1) (n := 2) (by decide) (by omega)
  rw [e2] at h2
  rw [if_neg c1, h2, Option.bind_some]
  dsimp only
  rw [if_neg (show ¬ (((0 : Int) != 0) = true) by decide), show p + 1 + 2 = p + 3 by omega]
  have hb : (((bitsAt b p 1 : Nat) : Int) == 1) = decide (bitsAt b p 1 = 1) := by
    rw [Bool.eq_iff_iff, beq_iff_eq, decide_eq_true_eq]; omega
  rw [hb]
  generalize hlast : decide (bitsAt b p 1 = 1) = last
  have b2 := bitsAt_lt b (p + 1) 2
  generalize bitsAt b (p + 1) 2 = kind at b2 ⊢
  have g0 : p + 3 ≤ 8 * b.length := by omega
  unfold kindR
  by_cases c3 : kind = 0
  · have hw := f79_eqn h hI.lim hm hI.len g0
    rw [if_pos c3]
    rw [if_pos (show ((kind : Int) == 0) = true by rw [beq_iff_eq]; omega), if_pos rfl]
    generalize f79 ((n : Int), most, L, ((p + 3 : Nat) : Int), T, ()) = X at hw ⊢
    generalize storedR b most n T (p + 3) = r at hw ⊢
    cases r with
    | inl r =>
      obtain ⟨n', T', p'⟩ := r
      have hw' : X = _ := hw
      subst hw'
      rw [Option.bind_some]
      dsimp only
      rw [if_pos rfl]
    | inr e =>
      obtain ⟨h0, z, hw'⟩ := hw
      subst hw'
      rw [Option.bind_some]
      dsimp only
      rw [if_pos rfl]
      exact ⟨h0, _, _, rfl⟩
  rw [if_neg c3]
  by_cases c4 : kind = 1
  · have hw := f80_eqn (err_of errM_fixL) (err_of errM_fixD) h hm g0 hI.len hI.lim
    have hl := l59_1_spec ((bitsAt b p 1 : Nat) : Int) (n : Int) most L ((p + 3 : Nat) : Int) T FU 0 (by omega) (by unfold FU; omega)
    have hl' : loopN g59_1 o59_1 b59_1 FU (((bitsAt b p 1 : Nat) : Int), 0, (n : Int), most, L, ((p + 3 : Nat) : Int), [], T, ()) = _ := hl
    rw [if_pos c4]
    rw [if_neg (show ¬ (((kind : Int) == 0) = true) by rw [beq_iff_eq]; omega), if_pos (show ((kind : Int) == 1) = true by rw [beq_iff_eq]; omega), if_pos rfl, show l59_1 = loopN g59_1 o59_1 b59_1 FU from rfl, hl', Option.bind_some, Sum.elim_inl, f43_fix, Option.bind_some]
    dsimp only
    have efl : List.take fixL.length (List.drop 0 fixL) = fixL := full fixL
    have efd : List.take fixD.length (List.drop 0 fixD) = fixD := full fixD
    rw [if_pos rfl, efl, efd]
    generalize f80 (fixL, fixD, (n : Int), most, L, ((p + 3 : Nat) : Int), T, ()) = X at hw ⊢
    generalize wordsR fixL fixD b most FU n T (p + 3) = r at hw ⊢
    cases r with
    | inl r =>
      obtain ⟨n', T', p'⟩ := r
      have hw' : X = _ := hw
      subst hw'
      rw [Option.bind_some]
      dsimp only
      rw [if_pos rfl, hb, hlast]
    | inr e =>
      obtain ⟨h0, z, hw'⟩ := hw
      subst hw'
      rw [Option.bind_some]
      dsimp only
      rw [if_pos rfl]
      exact ⟨h0, _, _, rfl⟩
  rw [if_neg c4]
  by_cases c5 : kind = 2
  · have hw := f81_eqn h hm hI g0
    rw [if_pos c5]
    rw [if_neg (show ¬ (((kind : Int) == 0) = true) by rw [beq_iff_eq]; omega), if_neg (show ¬ (((kind : Int) == 1) = true) by rw [beq_iff_eq]; omega), if_pos (show ((kind : Int) == 2) = true by rw [beq_iff_eq]; omega), if_pos rfl]
    generalize f81 ((n : Int), most, L, ((p + 3 : Nat) : Int), T, ()) = X at hw ⊢
    generalize ownR b most n T (p + 3) = r at hw ⊢
    cases r with
    | inl r =>
      obtain ⟨n', T', p'⟩ := r
      have hw' : X = _ := hw
      subst hw'
      rw [Option.bind_some]
      dsimp only
      rw [if_pos rfl]
    | inr e =>
      obtain ⟨h0, z, hw'⟩ := hw
      subst hw'
      rw [Option.bind_some]
      dsimp only
      rw [if_pos rfl]
      exact ⟨h0, _, _, rfl⟩
  rw [if_neg c5, if_neg (show ¬ (((kind : Int) == 0) = true) by rw [beq_iff_eq]; omega), if_neg (show ¬ (((kind : Int) == 1) = true) by rw [beq_iff_eq]; omega), if_neg (show ¬ (((kind : Int) == 2) = true) by rw [beq_iff_eq]; omega), if_pos rfl]
  exact ⟨by decide, _, _, rfl⟩
theorem l26_1_spec {b : List Int} {L : List Bool} (h : Rd b L) {most : Int} (hm : most ≤ 1048576) : ∀ (k n p : Nat) (T : List Tok), 8 * b.length < p + k → p ≤ 8 * b.length → Inv most n T →
    loopN g26_1 o26_1 b26_1 k ((n : Int), most, L, (p : Int), T, ()) = some (.inl (match blocksR b most k n T p with | .inl (_, T', p') => ((((p' + 7) / 8 : Nat) : Int), 0, T', ()) | .inr e => (0, e, [], ()))) := by
  have hlim := h.lim
  intro k
  induction k with
  | zero => intro n p T h1 h2; exfalso; omega
  | succ k ih =>
    intro n p T h1 h2 hI
    rw [loopN_succ]
    generalize hX : loopN g26_1 o26_1 b26_1 k = X at ih ⊢
    have hf := f59_eqn h hm hI h2
    unfold blocksR b26_1
    dsimp only
    rw [if_pos rfl]
    by_cases c1 : 8 * b.length < p + 3
    · rw [if_pos c1] at hf
      obtain ⟨l, z, hf⟩ := hf
      rw [if_pos c1, hf, Option.bind_some]
      dsimp only
      rw [if_pos (by decide)]
      rfl
    · rw [if_neg c1] at hf
      rw [if_neg c1]
      have hlim2 := fun n' T' p' => kindR_inv (most := most) (kind := bitsAt b (p + 1) 2) h.isB (show p + 3 ≤ 8 * b.length by omega) hI (n' := n') (T' := T') (p' := p')
      generalize kindR b most (bitsAt b (p + 1) 2) n T (p + 3) = r at hf hlim2 ⊢
      cases r with
      | inr e =>
        obtain ⟨h0, l, z, hf⟩ := hf
        rw [hf, Option.bind_some]
        dsimp only
        rw [if_pos (bne_iff_ne.2 h0)]
        rfl
      | inl r =>
        obtain ⟨n1, T1, p1⟩ := r
        obtain ⟨k1, k2, k3⟩ := hlim2 n1 T1 p1 rfl
        dsimp only at hf ⊢
        rw [hf, Option.bind_some]
        dsimp only
        rw [if_neg (show ¬ (((0 : Int) != 0) = true) by decide)]
        by_cases c2 : bitsAt b p 1 = 1
        · have w1 : IntKind.wrap .i64 ((p1 : Int) + 7) = ((p1 + 7 : Nat) : Int) := by rw [wrap_i64 (by omega)]; omega
          have w2 : Int.tdiv ((p1 + 7 : Nat) : Int) 8 = (((p1 + 7) / 8 : Nat) : Int) := rfl
          rw [if_pos c2, if_pos (decide_eq_true c2), if_pos rfl, w1, w2, wrap_i64 (by omega)]
          rfl
        · rw [if_neg c2, if_neg (fun h => c2 (of_decide_eq_true h)), if_pos rfl, Option.bind_some, Sum.elim_inl]
          exact ih n1 p1 T1 (by omega) k2 k3
theorem f26_eqn {b : List Int} (hb : IsB b) (hbl : b.length ≤ 1000) (most : Int) : f26 (b, most, ()) = some ((tokR b most).2.1, (tokR b most).2.2.1, (tokR b most).1, ()) := by
  unfold f26 tokR
  dsimp only
  by_cases c : most < 0 ∨ 1048576 < most
  · rw [if_pos c]
    by_cases c1 : most < 0
    · rw [if_pos (decide_eq_true c1)]
    · rw [if_neg (fun h => c1 (of_decide_eq_true h)), if_pos (decide_eq_true (c.resolve_left c1))]
  · rw [if_neg c]
    obtain ⟨L, r1, r2, r3⟩ := f58_spec b hb hbl
    have h := l26_1_spec ⟨hb, hbl, r2, r3⟩ (most := most) (by omega) FU 0 0 [] (by unfold FU; omega) (Nat.zero_le _) (Inv.nil (by omega))
    have h' : loopN g26_1 o26_1 b26_1 FU (0, most, L, 0, [], ()) = _ := h
    rw [if_neg (by rw [decide_eq_true_eq]; omega), if_neg (by rw [decide_eq_true_eq]; omega), r1, Option.bind_some]
    dsimp only
    rw [full, show l26_1 = loopN g26_1 o26_1 b26_1 FU from rfl, h', Option.bind_some, Sum.elim_inl, if_pos rfl]
    cases blocksR b most FU 0 [] 0 with
    | inl r =>
      obtain ⟨n, T, p⟩ := r
      rfl
    | inr e => rfl
theorem f19_eqn {b : List Int} (hb : IsB b) (hbl : b.length ≤ 1000) (most : Int) : f19 (b, most, ()) = some (infR b most) := by
  unfold f19 infR
  dsimp only
  rw [f26_eqn hb hbl, Option.bind_some]
  dsimp only
  rcases tokR_ok hb (most := most) with ⟨h1, _⟩ | ⟨h1, h2, n, h3, _⟩
  · rw [if_pos (bne_iff_ne.2 h1), if_pos h1]
  · rw [if_neg (by rw [h1]; decide), if_neg (by rw [h1]; decide), full, f27_eqn (h3.small h2.2), Option.bind_some]
end Go.Ev.Zlib
namespace Go.Ev.Zlib
theorem l14_1_spec {l : List Int} (hb : IsB l) (hl : l.length ≤ 10000) : ∀ (k i a b : Nat), l.length < i + k → i ≤ l.length → a < 65521 → b < 65521 →
    loopN g14_1 o14_1 b14_1 k (l, (a : Int), (b : Int), (i : Int), ()) = some (.inl ((((a + S (l.drop i)) % 65521 : Nat) : Int), (((b + (l.length - i) * a + W (l.drop i)) % 65521 : Nat) : Int), ())) := by
  intro k
  induction k with
  | zero => intro i a b h1 h2; omega
  | succ k ih =>
    intro i a b h1 h2 h3 h4
    rw [loopN_succ]
    generalize hL : loopN g14_1 o14_1 b14_1 k = L at ih ⊢
    unfold b14_1
    dsimp only
    rw [Int.toNat_natCast]
    rcases Nat.lt_or_ge i l.length with h | h
    · have hm : l.getD i 0 ∈ l := by
        rw [List.getD_eq_getElem?_getD, List.getElem?_eq_getElem h]
        exact List.getElem_mem _
      obtain ⟨x0, x1⟩ := hb _ hm
      have hx : (l.getD i 0) = (((l.getD i 0).toNat : Nat) : Int) := by omega
      have hd : l.drop i = l.getD i 0 :: l.drop (i + 1) := by
        rw [List.getD_eq_getElem?_getD, List.getElem?_eq_getElem h]
        exact List.drop_eq_getElem_cons h
      generalize hxn : (l.getD i 0).toNat = x at hx
      have w1 : IntKind.wrap .i64 (l.getD i 0) = (x : Int) := by rw [hx, wrap_i64 (by omega)]
      have w2 : IntKind.wrap .i64 ((a : Int) + (x : Int)) = ((a + x : Nat) : Int) := by rw [wrap_i64 (by omega)]; omega
      have w3 : Int.tmod (((a + x : Nat) : Int)) 65521 = (((a + x) % 65521 : Nat) : Int) := rfl
      have w4 : IntKind.wrap .i64 ((b : Int) + (((a + x) % 65521 : Nat) : Int)) = ((b + (a + x) % 65521 : Nat) : Int) := by rw [wrap_i64 (by omega)]; omega
      have w5 : Int.tmod (((b + (a + x) % 65521 : Nat) : Int)) 65521 = (((b + (a + x) % 65521) % 65521 : Nat) : Int) := rfl
      rw [if_pos (by rw [decide_eq_true_eq]; omega), if_pos (by omega), if_pos (by omega), w1, w2, w3, w4, w5, Option.bind_some, Sum.elim_inl, show IntKind.wrap .i64 ((i : Int) + 1) = ((i + 1 : Nat) : Int) by rw [wrap_i64 (by omega)]; omega]
      have hI := ih (i + 1) ((a + x) % 65521) ((b + (a + x) % 65521) % 65521) (by omega) (by omega) (by omega) (by omega)
      rw [hI, hd]
      simp only [S, W, hxn]
      have hlen : (l.drop (i + 1)).length = l.length - (i + 1) := List.length_drop ..
      obtain ⟨m1, m2⟩ := mod_step (l.length - (i + 1)) a b x (S (l.drop (i + 1))) (W (l.drop (i + 1)))
      rw [hlen, m1, m2, show l.length - (i + 1) + 1 = l.length - i by omega]
    · rw [if_neg (by rw [decide_eq_true_eq]; omega), List.drop_of_length_le (by omega), show l.length - i = 0 by omega]
      simp only [S, W, Nat.zero_mul, Nat.add_zero]
      rw [Nat.mod_eq_of_lt h3, Nat.mod_eq_of_lt h4]
      rfl
theorem f14_eqn {l : List Int} (hb : IsB l) (hl : l.length ≤ 10000) : f14 (l, ()) = some (((sumZ l : Nat) : Int), ()) := by
  have h := l14_1_spec hb hl FU 0 1 0 (by unfold FU; omega) (by omega) (by omega) (by omega)
  rw [List.drop_zero, Nat.sub_zero, Nat.mul_one, Nat.zero_add] at h
  have h' : loopN g14_1 o14_1 b14_1 FU (l, 1, 0, 0, ()) = some (.inl (((lowS l : Nat) : Int), ((highS l : Nat) : Int), ())) := h
  have l1 : lowS l < 65521 := Nat.mod_lt _ (by omega)
  have l2 : highS l < 65521 := Nat.mod_lt _ (by omega)
  unfold f14
  dsimp only
  rw [show l14_1 = loopN g14_1 o14_1 b14_1 FU from rfl, h', Option.bind_some, Sum.elim_inl]
  dsimp only
  rw [wrap_i64 (n := 65536 * ((highS l : Nat) : Int)) (by omega), wrap_i64 (by omega)]
  unfold sumZ
  congr 2
  omega
theorem f17_eqn {n : Nat} (h : n < 4294967296) : f17 ((n : Int), ()) = some (s4 n, ()) := by
  have d1 : Int.tdiv (n : Int) 16777216 = ((n / 16777216 : Nat) : Int) := rfl
  have d2 : Int.tdiv (n : Int) 65536 = ((n / 65536 : Nat) : Int) := rfl
  have d3 : Int.tdiv (n : Int) 256 = ((n / 256 : Nat) : Int) := rfl
  have m1 : ∀ k : Nat, Int.tmod (k : Int) 256 = ((k % 256 : Nat) : Int) := fun _ => rfl
  have u : ∀ k : Nat, IntKind.wrap .u8 ((k % 256 : Nat) : Int) = ((k % 256 : Nat) : Int) := fun k => by rw [wrap_u8]; omega
  unfold f17
  dsimp only
  rw [d1, d2, d3, wrap_i64 (n := ((n / 16777216 : Nat) : Int)) (by omega), wrap_i64 (n := ((n / 65536 : Nat) : Int)) (by omega), wrap_i64 (n := ((n / 256 : Nat) : Int)) (by omega), m1, m1, m1, m1, u, u, u, u]
  rfl
def headR (b : List Int) : Bool := decide (b.getD 0 0 % 16 = 8 ∧ b.getD 0 0 / 16 ≤ 7 ∧ (256 * b.getD 0 0 + b.getD 1 0) % 31 = 0 ∧ b.getD 1 0 / 32 % 2 = 0)
noncomputable def unpR (b : List Int) (most : Int) : List Int × Int :=
  if most < 0 ∨ 1048576 < most then ([], 1)
  else if b.length < 2 then ([], 6)
  else if headR b = false then ([], 4)
  else if (infR (b.drop 2) most).2.2.1 ≠ 0 then ([], (infR (b.drop 2) most).2.2.1)
  else if (b.drop (2 + (infR (b.drop 2) most).2.1.toNat)).length < 4 then ([], 6)
  else if be ((b.drop (2 + (infR (b.drop 2) most).2.1.toNat)).take 4) ≠ sumZ (infR (b.drop 2) most).1 then ([], 7)
  else ((infR (b.drop 2) most).1, 0)
theorem and8 {x m : Nat} (hx : x < 256) (hm : m < 256) : (BitVec.ofInt 8 (x : Int) &&& BitVec.ofInt 8 (m : Int)).toNat = x &&& m := by
  rw [BitVec.toNat_and, BitVec.toNat_ofInt, BitVec.toNat_ofInt]
  congr 1 <;> omega
theorem and_15 (x : Nat) : x &&& 15 = x % 16 := Nat.and_two_pow_sub_one_eq_mod x 4
theorem and_32 {x : Nat} (h : x < 256) : x &&& 32 = 32 * (x / 32 % 2) := by
  have h2 : ∀ x, x < 256 → x &&& 32 = 32 * (x / 32 % 2) := by decide +kernel
  exact h2 x h
end Go.Ev.Zlib
namespace Go.Ev.Zlib
theorem cpy_isB (k : Nat) : ∀ (n : Nat) (o : List Int), IsB o → IsB (cpy k n o)
  | 0, _, h => h
  | n + 1, _, h => cpy_isB k n _ (h.append (IsB.one (h.get _)))
theorem exp_isB {most : Int} : ∀ (T : List Tok) (out o : List Int), T.all isT = true → IsB out → exp most T out = .inl o → IsB o
  | [], out, o, _, h, he => by injection he with he; subst he; exact h
  | t :: T, out, o, hT, h, he => by
    rw [List.all_cons, Bool.and_eq_true] at hT
    have ht := hT.1
    rw [isT_iff] at ht
    rw [exp_cons] at he
    by_cases c1 : t.2.2 > ((out.length : Nat) : Int)
    · rw [if_pos c1] at he; cases he
    · rw [if_neg c1] at he
      by_cases c2 : ((out.length : Nat) : Int) + max t.2.1 1 > most
      · rw [if_pos c2] at he; cases he
      · rw [if_neg c2] at he
        refine exp_isB T _ o hT.2 (cpy_isB _ _ _ ?_) he
        by_cases c3 : t.2.1 = 0
        · rw [if_pos c3]; exact h.append (IsB.one (by omega))
        · rw [if_neg c3]; exact h
theorem infR_out {b : List Int} (hb : IsB b) {most : Int} (h0 : (infR b most).2.2.1 = 0) : ∃ k : Nat, (infR b most).2.1 = (k : Int) ∧ k ≤ b.length ∧ IsB (infR b most).1 ∧ (((infR b most).1.length : Nat) : Int) ≤ most := by
  rcases infR_ok hb (most := most) with ⟨h1, h2, h3⟩ | ⟨h1, h2, o, h3, h4, h5, h6, h7⟩
  · rw [h3] at h0; exact absurd h0 h1
  · rcases tokR_ok hb (most := most) with ⟨k1, _⟩ | ⟨k1, k2, n, k3, k4, k5⟩
    · exact absurd h1 k1
    · rw [h6]
      exact ⟨(tokR b most).2.1.toNat, by dsimp only; omega, by omega, exp_isB _ _ _ h3.tok IsB.nil h4, h3.lim⟩
theorem headR_iff {b : List Int} {x y : Nat} (hx : b.getD 0 0 = (x : Int)) (hy : b.getD 1 0 = (y : Int)) : headR b = true ↔ (x % 16 = 8 ∧ x / 16 ≤ 7 ∧ (256 * x + y) % 31 = 0 ∧ y / 32 % 2 = 0) := by
  unfold headR
  rw [decide_eq_true_eq, hx, hy]
  omega
theorem f12_gen {b : List Int} (hB : IsB b) (hl : b.length ≤ 1000) {most : Int} (hm : most ≤ 3000 ∨ 1048576 < most) : f12 (b, most, ()) = some ((unpR b most).1, (unpR b most).2, ()) := by
  unfold f12 unpR
  dsimp only
  by_cases c1 : most < 0
  · rw [if_pos (decide_eq_true c1), if_pos (.inl c1)]
  rw [if_neg (fun h => c1 (of_decide_eq_true h))]
  by_cases c2 : 1048576 < most
  · rw [if_pos (decide_eq_true c2), if_pos (.inr c2)]
  rw [if_neg (fun h => c2 (of_decide_eq_true h)), if_neg (show ¬ (most < 0 ∨ 1048576 < most) by omega)]
  by_cases c3 : b.length < 2
  · rw [if_pos (show decide (((b.length : Nat) : Int) < 2) = true by rw [decide_eq_true_eq]; omega), if_pos c3]
  rw [if_neg (show ¬ (decide (((b.length : Nat) : Int) < 2) = true) by rw [decide_eq_true_eq]; omega), if_neg c3]
  have hx0 := hB.get 0
  have hy0 := hB.get 1
  obtain ⟨x, hx⟩ : ∃ x : Nat, b.getD 0 0 = (x : Int) := ⟨(b.getD 0 0).toNat, by omega⟩
  obtain ⟨y, hy⟩ : ∃ x : Nat, b.getD 1 0 = (x : Int) := ⟨(b.getD 1 0).toNat, by omega⟩
  have hh := headR_iff hx hy
  rw [hx] at hx0
  rw [hy] at hy0
  have g1 : (0 : Int) < ((b.length : Nat) : Int) := by omega
  have g2 : (1 : Int) < ((b.length : Nat) : Int) := by omega
  have a1 : IntKind.wrap .u8 (((BitVec.ofInt 8 (x : Int) &&& BitVec.ofInt 8 15).toNat : Nat) : Int) = ((x % 16 : Nat) : Int) := by
    have e : (BitVec.ofInt 8 (x : Int) &&& BitVec.ofInt 8 15).toNat = x &&& 15 := and8 (m := 15) (by omega) (by omega)
    rw [e, and_15, wrap_u8]; omega
  have a2 : Int.fdiv (x : Int) 16 = ((x / 16 : Nat) : Int) := by rw [Int.fdiv_eq_ediv_of_nonneg _ (by omega)]; omega
  have a3 : IntKind.wrap .i64 (((BitVec.ofInt 64 (IntKind.wrap .i64 (IntKind.wrap .i64 (x : Int) * 256)) ||| BitVec.ofInt 64 (IntKind.wrap .i64 (y : Int))).toNat : Nat) : Int) = ((x * 2 ^ 8 + y : Nat) : Int) := by
    rw [wrap_i64 (n := (x : Int)) (by omega), wrap_i64 (n := (y : Int)) (by omega), wrap_i64 (n := (x : Int) * 256) (by omega), show (x : Int) * 256 = ((x * 2 ^ 8 : Nat) : Int) by omega, or64 (by omega) (by omega), shl_or (by omega), wrap_i64 (by omega)]
  have a4 : IntKind.wrap .u8 (((BitVec.ofInt 8 (y : Int) &&& BitVec.ofInt 8 32).toNat : Nat) : Int) = ((32 * (y / 32 % 2) : Nat) : Int) := by
    have e : (BitVec.ofInt 8 (y : Int) &&& BitVec.ofInt 8 32).toNat = y &&& 32 := and8 (m := 32) (by omega) (by omega)
    rw [e, and_32 (by omega), wrap_u8]; omega
  have a5 : Int.tmod ((x * 2 ^ 8 + y : Nat) : Int) 31 = (((x * 2 ^ 8 + y) % 31 : Nat) : Int) := rfl
  rw [if_pos g1, hx, hy, a1, a2, a3, a4, a5]
  cases hhd : headR b with
  | false =>
    have hn : ¬ (x % 16 = 8 ∧ x / 16 ≤ 7 ∧ (256 * x + y) % 31 = 0 ∧ y / 32 % 2 = 0) := fun h => by rw [hh.2 h] at hhd; cases hhd
    rw [if_pos (show (false = false) from rfl)]
    by_cases d1 : x % 16 = 8
    · rw [if_neg (by rw [bne_iff_ne]; omega), if_pos g1]
      by_cases d2 : x / 16 ≤ 7
      · rw [if_neg (by rw [decide_eq_true_eq]; omega), if_pos g1, if_pos g2]
        by_cases d3 : (256 * x + y) % 31 = 0
        · rw [if_neg (by rw [bne_iff_ne]; omega), if_pos g2, if_pos (by rw [bne_iff_ne]; omega)]
        · rw [if_pos (by rw [bne_iff_ne]; omega)]
      · rw [if_pos (by rw [decide_eq_true_eq]; omega)]
    · rw [if_pos (by rw [bne_iff_ne]; omega)]
  | true =>
    obtain ⟨d1, d2, d3, d4⟩ := hh.1 hhd
    rw [if_neg (show ¬ (true = false) by decide)]
    rw [if_neg (by rw [bne_iff_ne]; omega), if_pos g1, if_neg (by rw [decide_eq_true_eq]; omega), if_pos g1, if_pos g2, if_neg (by rw [bne_iff_ne]; omega), if_pos g2, if_neg (by rw [bne_iff_ne]; omega), if_pos (show (2 : Int) ≤ ((b.length : Nat) : Int) by omega), f18_eqn (hB.drop 2) (by rw [List.length_drop]; omega), Option.bind_some]
    have hio := fun h0 => infR_out (hB.drop 2) (most := most) h0
    rw [List.length_drop] at hio
    generalize infR (b.drop 2) most = q at hio ⊢
    obtain ⟨o, n, e, u⟩ := q
    dsimp only at hio ⊢
    by_cases c4 : e ≠ 0
    · rw [if_pos (bne_iff_ne.2 c4), if_pos c4]
    · obtain ⟨k, rfl, k2, k3, k4⟩ := hio (Decidable.not_not.1 c4)
      have w1 : IntKind.wrap .i64 (2 + (k : Int)) = ((2 + k : Nat) : Int) := by rw [wrap_i64 (by omega)]; omega
      rw [if_neg (fun h => c4 (bne_iff_ne.1 h)), if_neg c4, w1, Int.toNat_natCast, Int.toNat_natCast, if_pos (show (0 : Int) ≤ ((2 + k : Nat) : Int) by omega), if_pos (show ((2 + k : Nat) : Int) ≤ ((b.length : Nat) : Int) by omega)]
      have hrb : IsB (b.drop (2 + k)) := hB.drop _
      generalize b.drop (2 + k) = r at hrb ⊢
      by_cases c5 : r.length < 4
      · rw [if_pos (show decide (((r.length : Nat) : Int) < 4) = true by rw [decide_eq_true_eq]; omega), if_pos c5]
      · have ht : (r.take 4).length = 4 := by rw [List.length_take]; omega
        have h := l12_1_spec o (l := r.take 4) (by omega) (hrb.take 4) FU 0 0 (by unfold FU; omega) (Nat.zero_le _) (by decide)
        rw [List.drop_zero, Nat.zero_mul, Nat.zero_add] at h
        have h' : loopN g12_1 o12_1 b12_1 FU (o, 0, r.take 4, (((r.take 4).length : Nat) : Int), 0, ()) = _ := h
        have hf7 : f7 (o, ()) = some (((sumZ o : Nat) : Int), ()) := f7_eqn k3 (by omega)
        rw [if_neg (show ¬ (decide (((r.length : Nat) : Int) < 4) = true) by rw [decide_eq_true_eq]; omega), if_neg c5, if_pos (show (4 : Int) ≤ ((r.length : Nat) : Int) by omega), show l12_1 = loopN g12_1 o12_1 b12_1 FU from rfl, h', Option.bind_some, Sum.elim_inl]
        dsimp only
        rw [hf7, Option.bind_some]
        dsimp only
        by_cases c6 : be (r.take 4) = sumZ o
        · rw [if_neg (show ¬ (be (r.take 4) ≠ sumZ o) from fun h => h c6), c6, if_neg (by simp)]
        · rw [if_pos (show be (r.take 4) ≠ sumZ o from c6), if_pos (by rw [bne_iff_ne]; omega)]
theorem bytes_eq {a c : List Int} (ha : IsB a) (hc : IsB c) : ((ByteArray.toList (ByteArray.mk (List.toArray (List.map (fun y => UInt8.ofNat (Int.toNat y)) a)))) == (ByteArray.toList (ByteArray.mk (List.toArray (List.map (fun y => UInt8.ofNat (Int.toNat y)) c))))) = decide (a = c) := str_beq ha hc
theorem f13_gen {b : List Int} (hB : IsB b) (hl : b.length ≤ 1000) {most : Int} (hm : most ≤ 3000 ∨ 1048576 < most) : f13 (b, most, ()) = some ((unpR b most).2, (unpR b most).1, ()) := by
  unfold f13 unpR
  dsimp only
  by_cases c1 : most < 0
  · rw [if_pos (decide_eq_true c1), if_pos (.inl c1)]
  rw [if_neg (fun h => c1 (of_decide_eq_true h))]
  by_cases c2 : 1048576 < most
  · rw [if_pos (decide_eq_true c2), if_pos (.inr c2)]
  rw [if_neg (fun h => c2 (of_decide_eq_true h)), if_neg (show ¬ (most < 0 ∨ 1048576 < most) by omega)]
  by_cases c3 : b.length < 2
  · rw [if_pos (show decide (((b.length : Nat) : Int) < 2) = true by rw [decide_eq_true_eq]; omega), if_pos c3]
  rw [if_neg (show ¬ (decide (((b.length : Nat) : Int) < 2) = true) by rw [decide_eq_true_eq]; omega), if_neg c3]
  have hx0 := hB.get 0
  have hy0 := hB.get 1
  obtain ⟨x, hx⟩ : ∃ x : Nat, b.getD 0 0 = (x : Int) := ⟨(b.getD 0 0).toNat, by omega⟩
  obtain ⟨y, hy⟩ : ∃ x : Nat, b.getD 1 0 = (x : Int) := ⟨(b.getD 1 0).toNat, by omega⟩
  have hh := headR_iff hx hy
  rw [hx] at hx0
  rw [hy] at hy0
  have g1 : (0 : Int) < ((b.length : Nat) : Int) := by omega
  have g2 : (1 : Int) < ((b.length : Nat) : Int) := by omega
  have a1 : Int.tmod (x : Int) 16 = ((x % 16 : Nat) : Int) := rfl
  have a2 : IntKind.wrap .u8 (Int.tdiv (x : Int) 16) = ((x / 16 : Nat) : Int) := by
    rw [show Int.tdiv (x : Int) 16 = ((x / 16 : Nat) : Int) from rfl, wrap_u8]; omega
  have a3 : IntKind.wrap .i64 (IntKind.wrap .i64 (256 * IntKind.wrap .i64 (x : Int)) + IntKind.wrap .i64 (y : Int)) = ((256 * x + y : Nat) : Int) := by
    rw [wrap_i64 (n := (x : Int)) (by omega), wrap_i64 (n := (y : Int)) (by omega), wrap_i64 (n := 256 * (x : Int)) (by omega), wrap_i64 (by omega)]; omega
  have a4 : Int.tmod (IntKind.wrap .u8 (Int.tdiv (y : Int) 32)) 2 = ((y / 32 % 2 : Nat) : Int) := by
    rw [show Int.tdiv (y : Int) 32 = ((y / 32 : Nat) : Int) from rfl, wrap_u8, show ((y / 32 : Nat) : Int) % 256 = ((y / 32 : Nat) : Int) by omega]
    rfl
  have a5 : Int.tmod ((256 * x + y : Nat) : Int) 31 = (((256 * x + y) % 31 : Nat) : Int) := rfl
  rw [if_pos g1, hx, hy, a1, a2, a3, a4, a5]
  cases hhd : headR b with
  | false =>
    have hn : ¬ (x % 16 = 8 ∧ x / 16 ≤ 7 ∧ (256 * x + y) % 31 = 0 ∧ y / 32 % 2 = 0) := fun h => by rw [hh.2 h] at hhd; cases hhd
    rw [if_pos (show (false = false) from rfl)]
    by_cases d1 : x % 16 = 8
    · rw [if_neg (by rw [bne_iff_ne]; omega), if_pos g1]
      by_cases d2 : x / 16 ≤ 7
      · rw [if_neg (by rw [decide_eq_true_eq]; omega), if_pos g1, if_pos g2]
        by_cases d3 : (256 * x + y) % 31 = 0
        · rw [if_neg (by rw [bne_iff_ne]; omega), if_pos g2, if_pos (by rw [beq_iff_eq]; omega)]
        · rw [if_pos (by rw [bne_iff_ne]; omega)]
      · rw [if_pos (by rw [decide_eq_true_eq]; omega)]
    · rw [if_pos (by rw [bne_iff_ne]; omega)]
  | true =>
    obtain ⟨d1, d2, d3, d4⟩ := hh.1 hhd
    rw [if_neg (show ¬ (true = false) by decide)]
    rw [if_neg (by rw [bne_iff_ne]; omega), if_pos g1, if_neg (by rw [decide_eq_true_eq]; omega), if_pos g1, if_pos g2, if_neg (by rw [bne_iff_ne]; omega), if_pos g2, if_neg (by rw [beq_iff_eq]; omega), if_pos (show (2 : Int) ≤ ((b.length : Nat) : Int) by omega), f19_eqn (hB.drop 2) (by rw [List.length_drop]; omega), Option.bind_some]
    have hio := fun h0 => infR_out (hB.drop 2) (most := most) h0
    rw [List.length_drop] at hio
    generalize infR (b.drop 2) most = q at hio ⊢
    obtain ⟨o, n, e, u⟩ := q
    dsimp only at hio ⊢
    by_cases c4 : e ≠ 0
    · rw [if_pos (bne_iff_ne.2 c4), if_pos c4]
    · obtain ⟨k, rfl, k2, k3, k4⟩ := hio (Decidable.not_not.1 c4)
      have w1 : IntKind.wrap .i64 (2 + (k : Int)) = ((2 + k : Nat) : Int) := by rw [wrap_i64 (by omega)]; omega
      rw [if_neg (fun h => c4 (bne_iff_ne.1 h)), if_neg c4, w1, Int.toNat_natCast, Int.toNat_natCast, if_pos (show (0 : Int) ≤ ((2 + k : Nat) : Int) by omega), if_pos (show ((2 + k : Nat) : Int) ≤ ((b.length : Nat) : Int) by omega)]
      have hrb : IsB (b.drop (2 + k)) := hB.drop _
      generalize b.drop (2 + k) = r at hrb ⊢
      by_cases c5 : r.length < 4
      · rw [if_pos (show decide (((r.length : Nat) : Int) < 4) = true by rw [decide_eq_true_eq]; omega), if_pos c5]
      · have ht : (r.take 4).length = 4 := by rw [List.length_take]; omega
        have hs := sumZ_lt o
        rw [if_neg (show ¬ (decide (((r.length : Nat) : Int) < 4) = true) by rw [decide_eq_true_eq]; omega), if_neg c5, if_pos (show (4 : Int) ≤ ((r.length : Nat) : Int) by omega), f14_eqn k3 (by omega), Option.bind_some]
        dsimp only
        rw [f17_eqn hs, Option.bind_some]
        dsimp only
        rw [full, bytes_eq (hrb.take 4) (isB_s4 _)]
        by_cases c6 : be (r.take 4) = sumZ o
        · have c7 : r.take 4 = s4 (sumZ o) := be_inj (hrb.take 4) (isB_s4 _) (by rw [ht]; rfl) (by rw [c6, be_s4 hs])
          rw [if_neg (show ¬ (be (r.take 4) ≠ sumZ o) from fun h => h c6), decide_eq_true c7, if_neg (by decide), f9_eqn (by omega), Option.bind_some]
          dsimp only
          rw [if_pos rfl]
        · have c7 : r.take 4 ≠ s4 (sumZ o) := fun h => c6 (by rw [h, be_s4 hs])
          rw [if_pos (show be (r.take 4) ≠ sumZ o from c6), decide_eq_false c7, if_pos (by decide)]
end Go.Ev.Zlib
namespace Go.Ev.Zlib
theorem f16_eqn {b : List Int} (hB : IsB b) (hl : b.length ≤ 3000) {T : List Tok} {B : List Int} (h1 : Toks b 0 T) (hT : T.all isT = true) (hTl : T.length ≤ 3000) (h5 : Blk T B) : f16 (b, ()) = some (B, 0, ()) := by
  obtain ⟨T', g1, g2⟩ := f22_eqn hB (by omega)
  have eT := h1.same g1
  subst eT
  unfold f16
  dsimp only
  rw [g2, Option.bind_some]
  dsimp only
  rw [if_neg (by decide), full, f23_good hT hTl h5, Option.bind_some]
theorem f11_eqn {b : List Int} (hB : IsB b) (hl : b.length ≤ 3000) {T : List Tok} {B : List Int} (h1 : Toks b 0 T) (hT : T.all isT = true) (hTl : T.length ≤ 3000) (h5 : Blk T B) : f11 (b, ()) = some (0, packZ B (sumZ b), ()) := by
  have hBs := h5.small
  have hs := sumZ_lt b
  have e2 : List.take 2 (List.drop 0 (List.set (List.set (List.replicate 2 (0 : Int)) 0 120) 1 1)) = [120, 1] := rfl
  unfold f11
  dsimp only
  rw [f16_eqn hB hl h1 hT hTl h5, Option.bind_some]
  dsimp only
  rw [if_neg (by decide), e2, full ([120, 1] ++ B : List Int)]
  try rw [full B]
  rw [if_pos (by omega), f14_eqn hB (by omega), Option.bind_some]
  dsimp only
  rw [f17_eqn hs, Option.bind_some]
  dsimp only
  rw [full (s4 (sumZ b)), if_pos (by rw [List.length_append]; show 2 + _ + 4 ≤ _; omega), if_pos rfl]
  rfl
theorem zlibDoes_pure {x0 : List Int} (hB : IsB x0) (x1 : Int) : f4 (x0, x1, ()) = some (true, ()) := by
  unfold f4 b4_1
  dsimp only
  by_cases c1 : ((x0.length : Nat) : Int) > 200
  · rw [if_pos (decide_eq_true c1), Option.bind_some, Sum.elim_inl]
    rfl
  rw [if_neg (fun h => c1 (of_decide_eq_true h))]
  by_cases c2 : x1 > 3000 ∧ x1 ≤ 1048576
  · rw [if_pos (decide_eq_true c2.1), decide_eq_true c2.2, Option.bind_some, Sum.elim_inl]
    rfl
  have hb : (if decide (x1 > 3000) = true then some (Sum.inl (x0, x1, decide (x1 ≤ 1048576), ())) else some (Sum.inl (x0, x1, false, ()))) = (some (Sum.inl (x0, x1, false, ())) : Option (outD o4_1)) := by
    by_cases c3 : x1 > 3000
    · rw [if_pos (decide_eq_true c3), decide_eq_false (fun h => c2 ⟨c3, h⟩)]
    · rw [if_neg (fun h => c3 (of_decide_eq_true h))]
  rw [hb, Option.bind_some, Sum.elim_inl]
  dsimp only
  have hl : x0.length ≤ 200 := by omega
  have hm : x1 ≤ 3000 ∨ 1048576 < x1 := by omega
  obtain ⟨T, B, h1, h5, hT, hTl, h10⟩ := f10_eqn hB (by omega)
  have hf7 : f7 (x0, ()) = some (((sumZ x0 : Nat) : Int), ()) := f7_eqn hB (by omega)
  have h11 := f11_eqn hB (by omega) h1 hT hTl h5
  have h12 := f12_gen hB (by omega) hm
  have h13 := f13_gen hB (by omega) hm
  have h14 := f14_eqn hB (by omega)
  generalize unpR x0 x1 = q at h12 h13
  generalize packZ B (sumZ x0) = K at h10 h11
  rw [if_neg (by decide), f9_eqn (by omega), Option.bind_some]
  dsimp only
  rw [full x0, h10, Option.bind_some, h11, Option.bind_some, h12, Option.bind_some, h13, Option.bind_some, awake_true, Option.bind_some]
  dsimp only
  rw [if_pos rfl, if_pos (beq_self_eq_true _), hf7, Option.bind_some, h14, Option.bind_some]
  dsimp only
  rw [if_pos (beq_self_eq_true _), full K, if_pos (beq_self_eq_true _), if_pos (show ((0 : Int) == 0) = true from rfl), full q.1, if_pos (beq_self_eq_true _), beq_self_eq_true]
end Go.Ev.Zlib
