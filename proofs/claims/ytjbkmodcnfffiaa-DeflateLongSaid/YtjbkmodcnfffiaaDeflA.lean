/- Part of a proof about the given program: DeflA. -/
import Derived.Test.YtjbkmodcnfffiaaBig
import Derived.Test.YtjbkmodcnfffiaaDeflateS
import Derived.KernelRfl
namespace Go.Ev.Deflate

set_option maxRecDepth 100000 in
theorem awake_true : f15 () = some (true, ()) := by kernel_rfl

/-! # Rows that stood ahead -/
def runF (b : List Int) (at' back : Nat) : Nat → Nat → Nat
  | 0, n => n
  | r + 1, n => if at' + n < b.length ∧ b.getD (at' + n) 0 = b.getD (at' + n - back) 0 then runF b at' back r (n + 1) else n
def runN (b : List Int) (at' back : Nat) : Nat := runF b at' back 258 0

theorem runF_spec (b : List Int) (at' back : Nat) : ∀ (r n : Nat), (∀ j, j < n → at' + j < b.length ∧ b.getD (at' + j) 0 = b.getD (at' + j - back) 0) →
    (n ≤ runF b at' back r n ∧ runF b at' back r n ≤ n + r) ∧ (∀ j, j < runF b at' back r n → at' + j < b.length ∧ b.getD (at' + j) 0 = b.getD (at' + j - back) 0) ∧
    (runF b at' back r n = n + r ∨ ¬ (at' + runF b at' back r n < b.length ∧ b.getD (at' + runF b at' back r n) 0 = b.getD (at' + runF b at' back r n - back) 0))
  | 0, n, h => ⟨⟨Nat.le_refl _, Nat.le_refl _⟩, h, .inl rfl⟩
  | r + 1, n, h => by
    unfold runF
    by_cases c : at' + n < b.length ∧ b.getD (at' + n) 0 = b.getD (at' + n - back) 0
    · rw [if_pos c]
      obtain ⟨⟨h1, h2⟩, h3, h4⟩ := runF_spec b at' back r (n + 1) (fun j hj => by
        by_cases e : j = n
        · rw [e]; exact c
        · exact h j (by omega))
      exact ⟨⟨by omega, by omega⟩, h3, h4.imp (fun e => by omega) id⟩
    · rw [if_neg c]
      exact ⟨⟨Nat.le_refl _, by omega⟩, h, .inr c⟩
theorem runN_le (b : List Int) (at' back : Nat) : runN b at' back ≤ 258 := by
  have := (runF_spec b at' back 258 0 (fun j hj => by omega)).1.2
  unfold runN; omega
theorem runN_all (b : List Int) (at' back : Nat) : ∀ j, j < runN b at' back → at' + j < b.length ∧ b.getD (at' + j) 0 = b.getD (at' + j - back) 0 :=
  (runF_spec b at' back 258 0 (fun j hj => by omega)).2.1
theorem runN_end (b : List Int) (at' back : Nat) : runN b at' back = 258 ∨ ¬ (at' + runN b at' back < b.length ∧ b.getD (at' + runN b at' back) 0 = b.getD (at' + runN b at' back - back) 0) := by
  have := (runF_spec b at' back 258 0 (fun j hj => by omega)).2.2
  unfold runN
  exact this.imp (fun h => by omega) id
theorem runN_fit (b : List Int) (at' back : Nat) (h : at' ≤ b.length) : at' + runN b at' back ≤ b.length := by
  rcases Nat.eq_zero_or_pos (runN b at' back) with h0 | h0
  · omega
  · have := (runN_all b at' back (runN b at' back - 1) (by omega)).1
    omega

theorem l20_1_spec {b : List Int} (hl : b.length ≤ 10000000) {at' back : Nat} (hat : at' ≤ b.length) (hb : 1 ≤ back ∧ back ≤ at') : ∀ (r k n : Nat), n + r = 258 → r < k →
    loopN g20_1 o20_1 b20_1 k (b, (at' : Int), (back : Int), (n : Int), ()) = some (.inl (((runF b at' back r n : Nat) : Int), ())) := by
  intro r
  induction r with
  | zero =>
    intro k n hn hk
    obtain ⟨k, rfl⟩ : ∃ j, k = j + 1 := ⟨k - 1, by omega⟩
    rw [loopN_succ]
    generalize loopN g20_1 o20_1 b20_1 k = L
    unfold b20_1
    dsimp only
    rw [if_neg (by rw [decide_eq_true_eq]; omega)]
    rfl
  | succ r ih =>
    intro k n hn hk
    obtain ⟨k, rfl⟩ : ∃ j, k = j + 1 := ⟨k - 1, by omega⟩
    have ih := ih k (n + 1) (by omega) (by omega)
    rw [loopN_succ]
    generalize hL : loopN g20_1 o20_1 b20_1 k = L at ih ⊢
    have w1 : IntKind.wrap .i64 ((at' : Int) + (n : Int)) = ((at' + n : Nat) : Int) := by rw [wrap_i64 (by omega)]; omega
    have w2 : IntKind.wrap .i64 (((at' + n : Nat) : Int) - (back : Int)) = ((at' + n - back : Nat) : Int) := by rw [wrap_i64 (by omega)]; omega
    have w3 : IntKind.wrap .i64 ((n : Int) + 1) = ((n + 1 : Nat) : Int) := by rw [wrap_i64 (by omega)]; omega
    unfold b20_1
    dsimp only
    rw [w1, w2, w3]
    rw [if_pos (by rw [decide_eq_true_eq]; omega)]
    unfold runF
    by_cases c1 : at' + n < b.length
    · rw [if_pos (by rw [decide_eq_true_eq]; omega), if_pos (by omega), if_pos (by omega), if_pos (by omega), if_pos (by omega), Int.toNat_natCast, Int.toNat_natCast]
      by_cases c2 : b.getD (at' + n) 0 = b.getD (at' + n - back) 0
      · rw [if_pos (show at' + n < b.length ∧ b.getD (at' + n) 0 = b.getD (at' + n - back) 0 from ⟨c1, c2⟩), if_pos (by rw [beq_iff_eq]; exact c2), Option.bind_some, Sum.elim_inl]
        exact ih
      · rw [if_neg (show ¬ (at' + n < b.length ∧ b.getD (at' + n) 0 = b.getD (at' + n - back) 0) from fun h => c2 h.2), if_neg (by rw [beq_iff_eq]; exact c2)]
        rfl
    · rw [if_neg (by rw [decide_eq_true_eq]; omega), if_neg (fun h => c1 h.1)]
      rfl
theorem f20_eqn {b : List Int} (hl : b.length ≤ 10000000) {at' back : Nat} (hat : at' ≤ b.length) (hb : 1 ≤ back ∧ back ≤ at') : f20 (b, (at' : Int), (back : Int), ()) = some (((runN b at' back : Nat) : Int), ()) := by
  have h := l20_1_spec hl hat hb 258 18446744073709551616 0 rfl (by omega)
  unfold f20
  dsimp only
  have h' : loopN g20_1 o20_1 b20_1 18446744073709551616 (b, (at' : Int), (back : Int), 0, ()) = _ := h
  rw [show l20_1 = loopN g20_1 o20_1 b20_1 18446744073709551616 from rfl]
  generalize loopN g20_1 o20_1 b20_1 18446744073709551616 (b, (at' : Int), (back : Int), 0, ()) = X at h' ⊢
  subst h'
  rfl

/-- The longest row, the nearest one. -/
structure Best (b : List Int) (at' L K : Nat) : Prop where
  is : (L = 0 ∧ K = 0) ∨ (1 ≤ K ∧ K ≤ at' ∧ K ≤ 1024 ∧ L = runN b at' K ∧ 0 < L)
  top : ∀ k, 1 ≤ k → k ≤ at' → k ≤ 1024 → runN b at' k ≤ L
  near : ∀ k, 1 ≤ k → k < K → runN b at' k < L

theorem l9_2_spec {b : List Int} (hl : b.length ≤ 10000000) {at' : Nat} (hat : at' ≤ b.length) (out : List (Int × Int × Int)) : ∀ (k back L K : Nat), 1026 < back + k → 1 ≤ back → back ≤ 1025 →
    ((L = 0 ∧ K = 0) ∨ (1 ≤ K ∧ K < back ∧ K ≤ at' ∧ K ≤ 1024 ∧ L = runN b at' K ∧ 0 < L)) → (∀ j, 1 ≤ j → j < back → j ≤ at' → runN b at' j ≤ L) → (∀ j, 1 ≤ j → j < K → runN b at' j < L) →
    ∃ L' K' : Nat, Best b at' L' K' ∧ loopN g9_2 o9_2 b9_2 k (b, (at' : Int), (back : Int), out, 0, (L : Int), (K : Int), ()) = some (.inl (b, (at' : Int), out, 0, (L' : Int), (K' : Int), ())) := by
  intro k
  induction k with
  | zero => intro back L K h1 h2 h3; omega
  | succ k ih =>
    intro back L K h1 h2 h3 h4 h5 h6
    rw [loopN_succ]
    generalize hLL : loopN g9_2 o9_2 b9_2 k = LL at ih ⊢
    have hM : min ((at' : Nat) : Int) 1024 = ((min at' 1024 : Nat) : Int) := by omega
    unfold b9_2
    dsimp only
    rw [hM]
    by_cases c1 : back ≤ min at' 1024
    · rw [if_pos (by rw [decide_eq_true_eq]; omega)]
      by_cases c2 : L < 258
      · rw [if_pos (by rw [decide_eq_true_eq]; omega), f20_eqn hl hat ⟨h2, by omega⟩, Option.bind_some]
        dsimp only
        have w3 : IntKind.wrap .i64 ((back : Int) + 1) = ((back + 1 : Nat) : Int) := by rw [wrap_i64 (by omega)]; omega
        rw [w3]
        by_cases c3 : L < runN b at' back
        · rw [if_pos (by rw [decide_eq_true_eq]; omega), if_pos rfl, Option.bind_some, Sum.elim_inl]
          refine ih (back + 1) (runN b at' back) back (by omega) (by omega) (by omega) (.inr ⟨h2, by omega, by omega, by omega, rfl, by omega⟩) (fun j hj1 hj2 hj3 => ?_) (fun j hj1 hj2 => ?_)
          · by_cases e : j = back
            · rw [e]; exact Nat.le_refl _
            · have := h5 j hj1 (by omega) hj3; omega
          · have := h5 j hj1 hj2 (by omega); omega
        · rw [if_neg (by rw [decide_eq_true_eq]; omega), if_pos rfl, Option.bind_some, Sum.elim_inl]
          refine ih (back + 1) L K (by omega) (by omega) (by omega) (h4.imp id (fun h => ⟨h.1, by omega, h.2.2⟩)) (fun j hj1 hj2 hj3 => ?_) h6
          by_cases e : j = back
          · rw [e]; omega
          · exact h5 j hj1 (by omega) hj3
      · rw [if_neg (by rw [decide_eq_true_eq]; omega), if_pos rfl]
        refine ⟨L, K, ⟨h4.imp id (fun h => ⟨h.1, h.2.2⟩), fun j _ _ _ => ?_, h6⟩, rfl⟩
        have := runN_le b at' j; omega
    · rw [if_neg (by rw [decide_eq_true_eq]; omega), if_pos rfl]
      refine ⟨L, K, ⟨h4.imp id (fun h => ⟨h.1, h.2.2⟩), fun j hj1 hj2 hj3 => h5 j hj1 (by omega) hj2, h6⟩, rfl⟩

/-- Which tokens bytes have from a place on. -/
def Good (b : List Int) (at' : Nat) (t : Int × Int × Int) : Prop := ∃ L K : Nat, Best b at' L K ∧ ((L < 3 ∧ t = (b.getD at' 0, 0, 0)) ∨ (3 ≤ L ∧ t = (0, (L : Int), (K : Int))))
inductive Toks (b : List Int) : Nat → List (Int × Int × Int) → Prop
  | nil : Toks b b.length []
  | cons {at' : Nat} {t : Int × Int × Int} {l : List (Int × Int × Int)} (h : at' < b.length) (g : Good b at' t) (r : Toks b (at' + max t.2.1.toNat 1) l) : Toks b at' (t :: l)

theorem l9_1_spec {b : List Int} (hB : IsB b) (hl : b.length ≤ 10000000) : ∀ (k at' : Nat) (out : List (Int × Int × Int)), b.length < at' + k → at' ≤ b.length → out.length ≤ at' →
    ∃ T, Toks b at' T ∧ loopN g9_1 o9_1 b9_1 k (b, (at' : Int), out, ()) = some (.inl (out ++ T, ())) := by
  intro k
  induction k with
  | zero => intro at' out h1 h2; omega
  | succ k ih =>
    intro at' out h1 h2 h3
    rw [loopN_succ]
    generalize hLL : loopN g9_1 o9_1 b9_1 k = LL at ih ⊢
    unfold b9_1
    dsimp only
    rcases Nat.lt_or_ge at' b.length with h | h
    · obtain ⟨L, K, hBst, hrun⟩ := l9_2_spec hl h2 out 18446744073709551616 1 0 0 (by omega) (by omega) (by omega) (.inl ⟨rfl, rfl⟩) (fun j h1 h2 => by omega) (fun j h1 h2 => by omega)
      have hrun' : loopN g9_2 o9_2 b9_2 18446744073709551616 (b, (at' : Int), 1, out, 0, 0, 0, ()) = _ := hrun
      rw [if_pos (by rw [decide_eq_true_eq]; omega), if_pos rfl, show l9_2 = loopN g9_2 o9_2 b9_2 18446744073709551616 from rfl]
      generalize loopN g9_2 o9_2 b9_2 18446744073709551616 (b, (at' : Int), 1, out, 0, 0, 0, ()) = X at hrun' ⊢
      subst hrun'
      rw [Option.bind_some, Sum.elim_inl]
      dsimp only
      have e1 : ∀ v : Int × Int × Int, List.take 1 (List.drop 0 (List.set (List.replicate 1 ((0 : Int), (0 : Int), (0 : Int))) 0 v)) = [v] := fun v => rfl
      by_cases c : L < 3
      · have hm : b.getD at' 0 ∈ b := by
          rw [List.getD_eq_getElem?_getD, List.getElem?_eq_getElem h]
          exact List.getElem_mem _
        obtain ⟨x0, x1⟩ := hB _ hm
        rw [if_pos (by rw [decide_eq_true_eq]; omega), if_pos (by omega), if_pos (by omega), Int.toNat_natCast, wrap_i64 (n := b.getD at' 0) (by omega), e1, List.drop_zero, List.take_length, if_pos (by simp only [List.length_singleton]; omega), if_pos rfl, Option.bind_some, Sum.elim_inl,
          show IntKind.wrap .i64 ((at' : Int) + 1) = ((at' + 1 : Nat) : Int) by rw [wrap_i64 (by omega)]; omega]
        obtain ⟨T, t1, t2⟩ := ih (at' + 1) (out ++ [(b.getD at' 0, 0, 0)]) (by omega) (by omega) (by simp; omega)
        exact ⟨(b.getD at' 0, 0, 0) :: T, .cons h ⟨L, K, hBst, .inl ⟨c, rfl⟩⟩ t1, by rw [t2, List.append_assoc]; rfl⟩
      · have hfit : at' + L ≤ b.length := by
          rcases hBst.is with ⟨h0, _⟩ | ⟨_, _, _, h0, _⟩
          · omega
          · rw [h0]; exact runN_fit b at' K h2
        rw [if_neg (by rw [decide_eq_true_eq]; omega), e1, List.drop_zero, List.take_length, if_pos (by simp only [List.length_singleton]; omega), if_pos rfl, Option.bind_some, Sum.elim_inl,
          show IntKind.wrap .i64 ((at' : Int) + max (L : Int) 1) = ((at' + max L 1 : Nat) : Int) by rw [wrap_i64 (by omega)]; omega]
        obtain ⟨T, t1, t2⟩ := ih (at' + max L 1) (out ++ [(0, (L : Int), (K : Int))]) (by omega) (by omega) (by simp; omega)
        exact ⟨(0, (L : Int), (K : Int)) :: T, .cons h ⟨L, K, hBst, .inr ⟨by omega, rfl⟩⟩ (by rw [Int.toNat_natCast]; exact t1), by rw [t2, List.append_assoc]; rfl⟩
    · have he : at' = b.length := by omega
      rw [if_neg (by rw [decide_eq_true_eq]; omega), if_pos rfl]
      exact ⟨[], by rw [he]; exact .nil, by rw [List.append_nil]; rfl⟩
theorem f9_eqn {b : List Int} (hB : IsB b) (hl : b.length ≤ 1048576) : ∃ T, Toks b 0 T ∧ f9 (b, ()) = some (0, T, ()) := by
  obtain ⟨T, t1, t2⟩ := l9_1_spec hB (by omega) 18446744073709551616 0 [] (by omega) (by omega) (Nat.zero_le _)
  refine ⟨T, t1, ?_⟩
  rw [List.nil_append] at t2
  unfold f9
  dsimp only
  have t2' : loopN g9_1 o9_1 b9_1 18446744073709551616 (b, 0, [], ()) = _ := t2
  rw [if_neg (by rw [decide_eq_true_eq]; omega), show l9_1 = loopN g9_1 o9_1 b9_1 18446744073709551616 from rfl]
  generalize loopN g9_1 o9_1 b9_1 18446744073709551616 (b, 0, [], ()) = X at t2' ⊢
  subst t2'
  rw [Option.bind_some, Sum.elim_inl]
  dsimp only
  rw [if_pos rfl]
end Go.Ev.Deflate
