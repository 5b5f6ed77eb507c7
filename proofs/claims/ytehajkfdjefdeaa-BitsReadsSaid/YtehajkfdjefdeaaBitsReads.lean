/- Part of a proof about the given program: BitsReads. -/
import Derived.Test.YtehajkfdjefdeaaBitsRef
namespace Go.Ev.Bits

/-! ## The bits of bytes -/
theorem l19_2_spec (b : List Int) (i : Int) : ∀ (k j n : Nat) (out : List Bool), j ≤ 8 → 8 < j + k → n < 256 → out.length + (8 - j) ≤ 100000 →
    loopN g19_2 o19_2 b19_2 k (b, i, (n : Int), (j : Int), out, ()) = some (.inl (b, i, ((n / 2 ^ (8 - j) : Nat) : Int), 8, out ++ bitsN n (8 - j), ())) := by
  intro k
  induction k with
  | zero => intro j n out h1 h2; omega
  | succ k ih =>
    intro j n out h1 h2 hn hl
    rw [loopN_succ]
    generalize hL : loopN g19_2 o19_2 b19_2 k = L at ih ⊢
    unfold b19_2
    simp only [if_true, List.drop_zero, List.take_length, one_of, List.length_cons, List.length_nil]
    rcases Nat.lt_or_ge j 8 with h | h
    · rw [if_pos (by simp <;> omega), if_pos (by omega), tdiv2 (by omega), wrap_i64 (by omega), tmod2]
      simp only [Option.bind_some, Sum.elim_inl]
      have := ih (j + 1) (n / 2) (out ++ [decide (n % 2 = 1)]) (by omega) (by omega) (by omega) (by simp; omega)
      rw [show 8 - j = (8 - (j + 1)) + 1 by omega]
      simp only [bitsN]
      rw [Nat.pow_succ', ← Nat.div_div_eq_div_mul]
      simp only [List.append_assoc, List.singleton_append] at this
      exact this
    · have e : j = 8 := by omega
      subst e
      rw [if_neg (by simp)]
      simp only [Option.bind_some, Sum.elim_inr]
      simp [bitsN]

theorem l19_1_spec (b : List Int) (hb : IsB b) (hl : b.length ≤ 1000) : ∀ (k j : Nat) (out : List Bool), j ≤ b.length → b.length < j + k → out.length = 8 * j →
    ∃ out2 : List Bool, loopN g19_1 o19_1 b19_1 k (b, (j : Int), out, ()) = some (.inl (b, (b.length : Int), out2, ())) ∧ out2.length = 8 * b.length ∧ nb out2 = nb out + 2 ^ (8 * j) * valB (b.drop j) := by
  intro k
  induction k with
  | zero => intro j out h1 h2; omega
  | succ k ih =>
    intro j out h1 h2 ho
    rw [loopN_succ]
    generalize hL : loopN g19_1 o19_1 b19_1 k = L at ih ⊢
    unfold b19_1
    simp only [if_true, Int.toNat_natCast]
    rcases Nat.lt_or_ge j b.length with h | h
    · rw [if_pos (by simpa using h), if_pos (by omega), if_pos (by omega)]
      have hg := hb.get j
      obtain ⟨n, hn⟩ : ∃ n : Nat, b.getD j 0 = (n : Int) := ⟨(b.getD j 0).toNat, by omega⟩
      rw [hn] at hg
      rw [hn, wrap_i64 (by omega)]
      have g := l19_2_spec b (j : Int) 18446744073709551616 0 n out (by omega) (by omega) (by omega) (by omega)
      have g' : loopN g19_2 o19_2 b19_2 18446744073709551616 (b, (j : Int), (n : Int), 0, out, ()) = _ := g
      rw [show l19_2 = loopN g19_2 o19_2 b19_2 18446744073709551616 from rfl, g']
      simp only [Option.bind_some, Sum.elim_inl]
      rw [wrap_i64 (by omega)]
      obtain ⟨o2, q1, q2, q3⟩ := ih (j + 1) (out ++ bitsN n 8) (by omega) (by omega) (by simp [bitsN_length]; omega)
      refine ⟨o2, q1, q2, ?_⟩
      rw [q3, nb_append, nb_bitsN, ho, drop_getD 0 h, hn]
      simp only [valB, Int.toNat_natCast]
      rw [Nat.mod_eq_of_lt (by omega), show 8 * (j + 1) = 8 * j + 8 by omega, Nat.pow_add, show (2 : Nat) ^ 8 = 256 from rfl, Nat.mul_assoc, Nat.mul_add]
      omega
    · have e : j = b.length := by omega
      subst e
      rw [if_neg (by simp)]
      refine ⟨out, rfl, ho, ?_⟩
      simp [valB]

theorem f19_spec (b : List Int) (hb : IsB b) (hl : b.length ≤ 1000) : ∃ l : List Bool, f19 (b, ()) = some (l, ()) ∧ l.length = 8 * b.length ∧ nb l = valB b := by
  obtain ⟨o2, h1, h2, h3⟩ := l19_1_spec b hb hl 18446744073709551616 0 [] (by omega) (by omega) rfl
  refine ⟨o2, ?_, h2, by rw [h3]; simp [nb]⟩
  unfold f19
  have h1' : loopN g19_1 o19_1 b19_1 18446744073709551616 (b, 0, [], ()) = _ := h1
  rw [show l19_1 = loopN g19_1 o19_1 b19_1 18446744073709551616 from rfl, h1']
  simp only [Option.bind_some, Sum.elim_inl, List.drop_zero, List.take_length]

/-! ## Numbers of bits -/
theorem l26_spec (l : List Bool) (hl : l.length ≤ 24) : ∀ (k i : Nat), i ≤ l.length → i < k →
    loopN g26_1 o26_1 b26_1 k (l, ((nb (l.drop i) : Nat) : Int), (i : Int) - 1, ()) = some (.inl (l, ((nb l : Nat) : Int), -1, ())) := by
  intro k
  induction k with
  | zero => intro i h1 h2; omega
  | succ k ih =>
    intro i h1 h2
    rw [loopN_succ]
    generalize hL : loopN g26_1 o26_1 b26_1 k = L at ih ⊢
    unfold b26_1
    simp only []
    cases i with
    | zero => rw [if_neg (by simp)]; rfl
    | succ i =>
      have e0 : (((i + 1 : Nat) : Int) - 1) = (i : Int) := by omega
      rw [e0, if_pos (by simp), if_pos (by omega), if_pos (by omega)]
      simp only [Int.toNat_natCast]
      have hd := drop_getD false (by omega : i < l.length)
      have hlt := nb_lt (l.drop (i + 1))
      have hp : (2 : Nat) ^ (l.drop (i + 1)).length ≤ 16777216 := by
        have : (2 : Nat) ^ (l.drop (i + 1)).length ≤ 2 ^ 24 := Nat.pow_le_pow_right (by omega) (by simp; omega)
        simpa using this
      have hi := ih i (by omega) (by omega)
      rw [hd] at hi
      rcases (Bool.eq_false_or_eq_true (l.getD i false)).symm with hbit | hbit
      · rw [if_neg (by rw [hbit]; simp), wrap_i64 (n := 2 * ((nb (l.drop (i + 1)) : Nat) : Int)) (by omega), wrap_i64 (by omega)]
        simp only [Option.bind_some, Sum.elim_inl]
        rw [hbit] at hi
        simp only [nb, Bool.toNat_false, Nat.zero_add] at hi
        rw [show (2 * ((nb (l.drop (i + 1)) : Nat) : Int)) = ((2 * nb (l.drop (i + 1)) : Nat) : Int) by omega]
        exact hi
      · rw [if_pos hbit, wrap_i64 (n := 2 * ((nb (l.drop (i + 1)) : Nat) : Int)) (by omega), wrap_i64 (by omega), wrap_i64 (by omega)]
        simp only [Option.bind_some, Sum.elim_inl]
        rw [hbit] at hi
        simp only [nb, Bool.toNat_true] at hi
        rw [show (2 * ((nb (l.drop (i + 1)) : Nat) : Int) + 1) = ((1 + 2 * nb (l.drop (i + 1)) : Nat) : Int) by omega]
        exact hi

theorem f26_spec (l : List Bool) (hl : l.length ≤ 24) : f26 (l, ()) = some (((nb l : Nat) : Int), ()) := by
  unfold f26
  have h := l26_spec l hl 18446744073709551616 l.length (Nat.le_refl _) (by omega)
  rw [List.drop_length] at h
  have h' : loopN g26_1 o26_1 b26_1 18446744073709551616 (l, 0, (l.length : Int) - 1, ()) = _ := h
  simp only []
  rw [wrap_i64 (by omega), show l26_1 = loopN g26_1 o26_1 b26_1 18446744073709551616 from rfl, h']
  rfl

/-! ## A reader beside the reference's -/
structure SameR (b : List Int) (a w m : Nat) (l : List Bool) (at_ : Nat) : Prop where
  hm : m < 8
  hw : w < 2 ^ m
  ha : a ≤ b.length
  hb : IsB b
  hbl : b.length ≤ 500
  hl : l.length = 8 * b.length
  hat : at_ ≤ l.length
  left : l.length - at_ = m + 8 * (b.length - a)
  num : nb (l.drop at_) = RV b a w m

theorem f13_bad {n : Int} {b : List Int} {a w m : Int} (h : n < 0 ∨ n > 24) : f13 (n, b, a, w, m, ()) = some (0, 1, b, a, w, m, ()) := by
  unfold f13
  simp only []
  by_cases h1 : n < 0
  · rw [if_pos (by simpa using h1)]
  · rw [if_neg (by simpa using h1), if_pos (by simp; omega)]
theorem f20_bad {n : Int} {l : List Bool} {a : Int} (h : n < 0 ∨ n > 24) : f20 (n, l, a, ()) = some (0, 1, l, a, ()) := by
  unfold f20
  simp only []
  by_cases h1 : n < 0
  · rw [if_pos (by simpa using h1)]
  · rw [if_neg (by simpa using h1), if_pos (by simp; omega)]

/-- Bits: both tell the same. -/
theorem bits_same {b : List Int} {a w m : Nat} {l : List Bool} {t : Nat} (h : SameR b a w m l t) (n : Int) :
    ∃ (v e : Int) (a' w' m' t' : Nat), f13 (n, b, (a : Int), (w : Int), (m : Int), ()) = some (v, e, b, (a' : Int), (w' : Int), (m' : Int), ()) ∧ f20 (n, l, (t : Int), ()) = some (v, e, l, (t' : Int), ()) ∧ SameR b a' w' m' l t' := by
  by_cases hbad : n < 0 ∨ n > 24
  · exact ⟨0, 1, a, w, m, t, f13_bad hbad, f20_bad hbad, h⟩
  · obtain ⟨nn, rfl⟩ : ∃ nn : Nat, n = (nn : Int) := ⟨n.toNat, by omega⟩
    have hl := h.hl
    have hat := h.hat
    have hlf := h.left
    have hbl := h.hbl
    by_cases hmore : l.length - t < nn
    · refine ⟨0, 6, a, w, m, t, ?_, ?_, h⟩
      · unfold f13
        simp only []
        rw [if_neg (by simp), if_neg (by simp; omega), f14_eqn h.ha (by omega) (by have := h.hm; omega)]
        simp only [Option.bind_some]
        rw [if_pos (by rw [decide_eq_true_eq]; omega)]
      · unfold f20
        simp only []
        rw [if_neg (by simp), if_neg (by simp; omega), wrap_i64 (by omega), if_pos (by rw [decide_eq_true_eq]; omega)]
    · obtain ⟨a', w', m', h1, h2, h3, h4, h5, h6⟩ := f13_good (n := nn) h.hb (by omega) h.hm h.hw h.ha (by omega) (by omega)
      have hsl : nb (List.drop t (List.take (t + nn) l)) = RV b a w m % 2 ^ nn := by
        rw [List.drop_take, show t + nn - t = nn by omega, nb_take _ (by simp; omega), h.num]
      refine ⟨_, 0, a', w', m', t + nn, h1, ?_, ⟨h2, h3, h4, h.hb, h.hbl, hl, by omega, by omega, ?_⟩⟩
      · unfold f20
        simp only []
        rw [if_neg (by simp), if_neg (by simp; omega), wrap_i64 (n := (l.length : Int) - t) (by omega), if_neg (by rw [decide_eq_true_eq]; omega)]
        rw [wrap_i64 (n := (t : Int) + nn) (by omega), show ((t : Int) + nn - nn) = (t : Int) by omega, wrap_i64 (n := (t : Int)) (by omega), show ((t : Int) + nn) = ((t + nn : Nat) : Int) by omega]
        rw [if_pos (by omega), if_pos (by omega), if_pos (by omega), if_pos (by omega)]
        simp only [Int.toNat_natCast]
        rw [f26_spec _ (by simp; omega), hsl]
        rfl
      · rw [h6, ← h.num, ← nb_drop _ (by simp; omega), List.drop_drop]

theorem l22_spec (l : List Bool) (hl : l.length ≤ 4000) (h8 : l.length % 8 = 0) : ∀ (k t : Nat), t ≤ l.length → (8 - t % 8) % 8 < k →
    loopN g22_1 o22_1 b22_1 k (l, (t : Int), ()) = some (.inl (l, (((t + 7) / 8 * 8 : Nat) : Int), ())) := by
  intro k
  induction k with
  | zero => intro t _ h; omega
  | succ k ih =>
    intro t ht h
    rw [loopN_succ]
    generalize hL : loopN g22_1 o22_1 b22_1 k = L at ih ⊢
    unfold b22_1
    simp only []
    rw [Int.tmod_eq_emod_of_nonneg (by omega)]
    by_cases hm : t % 8 = 0
    · rw [if_neg (by simp; omega)]
      simp only [Option.bind_some, Sum.elim_inr]
      rw [show (t + 7) / 8 * 8 = t by omega]
    · rw [if_pos (by simp; omega), wrap_i64 (by omega)]
      simp only [Option.bind_some, Sum.elim_inl]
      have := ih (t + 1) (by omega) (by omega)
      rw [show (t + 1 + 7) / 8 * 8 = (t + 7) / 8 * 8 by omega] at this
      exact this

theorem align_same {b : List Int} {a w m : Nat} {l : List Bool} {t : Nat} (h : SameR b a w m l t) :
    ∃ t' : Nat, f21 (b, (a : Int), (w : Int), (m : Int), ()) = some (0, b, (a : Int), 0, 0, ()) ∧ f22 (l, (t : Int), ()) = some (0, l, (t' : Int), ()) ∧ SameR b a 0 0 l t' := by
  have hl := h.hl
  have hat := h.hat
  have hlf := h.left
  have hbl := h.hbl
  have hm := h.hm
  have ha := h.ha
  refine ⟨(t + 7) / 8 * 8, ?_, ?_, ⟨by omega, by simp, ha, h.hb, hbl, hl, by omega, by omega, ?_⟩⟩
  · unfold f21
    simp only []
    rw [Int.tdiv_eq_ediv_of_nonneg (by omega), show ((m : Int) / 8) = 0 by omega, wrap_i64 (n := 0) (by omega), wrap_i64 (by omega)]
    simp
  · unfold f22
    simp only []
    rw [show l22_1 = loopN g22_1 o22_1 b22_1 18446744073709551616 from rfl, l22_spec l (by omega) (by omega) _ t hat (by omega)]
    rfl
  · have e : (t + 7) / 8 * 8 = t + m := by omega
    rw [e, ← List.drop_drop, nb_drop _ (by simp; omega), h.num]
    unfold RV
    rw [Nat.add_mul_div_left _ _ (Nat.two_pow_pos m), Nat.div_eq_of_lt h.hw]
    simp

theorem bytes_same {b : List Int} {a w m : Nat} {l : List Bool} {t : Nat} (h : SameR b a w m l t) (n : Int) :
    ∃ (B : List Int) (e : Int) (a' w' m' t' : Nat), f23 (n, b, (a : Int), (w : Int), (m : Int), ()) = some (e, b, (a' : Int), (w' : Int), (m' : Int), B, ()) ∧ f24 (n, l, (t : Int), ()) = some (e, l, (t' : Int), B, ()) ∧ SameR b a' w' m' l t' ∧ B.length ≤ 500 := by
  by_cases hbad : n < 0
  · refine ⟨[], 1, a, w, m, t, ?_, ?_, h, by simp⟩
    · unfold f23
      simp only []
      rw [if_pos (by simpa using hbad)]
    · unfold f24
      simp only []
      rw [if_pos (by simpa using hbad)]
  · obtain ⟨nn, rfl⟩ : ∃ nn : Nat, n = (nn : Int) := ⟨n.toNat, by omega⟩
    obtain ⟨t', g1, g2, g3⟩ := align_same h
    have hl := g3.hl
    have hat := g3.hat
    have hlf := g3.left
    have hbl := g3.hbl
    have ha := g3.ha
    by_cases hmore : b.length - a < nn
    · refine ⟨[], 6, a, 0, 0, t', ?_, ?_, g3, by simp⟩
      · unfold f23
        simp only []
        rw [if_neg (by simp), g1]
        simp only [Option.bind_some]
        rw [wrap_i64 (n := (b.length : Int) - a) (by omega), if_pos (by rw [decide_eq_true_eq]; omega)]
        rfl
      · unfold f24
        simp only []
        rw [if_neg (by simp), g2]
        simp only [Option.bind_some]
        rw [wrap_i64 (n := (l.length : Int) - t') (by omega), Int.tdiv_eq_ediv_of_nonneg (by omega), wrap_i64 (by omega), if_pos (by rw [decide_eq_true_eq]; omega)]
    · have hle : nn ≤ b.length - a := by omega
      have hslen : ((List.drop t' l).take (8 * nn)).length = 8 * nn := by simp; omega
      obtain ⟨B, k1, k2, k3, k4⟩ := f17_spec ((List.drop t' l).take (8 * nn)) (by omega)
      have hB : B = (b.drop a).take nn := by
        refine valB_inj k2 ((g3.hb.drop a).take nn) (by rw [k3, hslen]; simp; omega) ?_
        rw [k4, nb_take _ (by simp; omega), g3.num]
        unfold RV
        simp only [Nat.pow_zero, Nat.one_mul, Nat.zero_add]
        rw [← pow256]
        have hs : valB (b.drop a) = valB ((b.drop a).take nn) + 256 ^ nn * valB ((b.drop a).drop nn) := by
          have := valB_append ((b.drop a).take nn) ((b.drop a).drop nn)
          rw [List.take_append_drop, List.length_take, Nat.min_eq_left (by simp; omega)] at this
          exact this
        have hlt := valB_lt ((g3.hb.drop a).take nn)
        rw [List.length_take, Nat.min_eq_left (by simp; omega)] at hlt
        rw [hs, Nat.add_mul_mod_self_left, Nat.mod_eq_of_lt hlt]
      refine ⟨B, 0, a + nn, 0, 0, t' + 8 * nn, ?_, ?_, ⟨by omega, by simp, by omega, g3.hb, hbl, hl, by omega, by omega, ?_⟩, by rw [k3, hslen]; omega⟩
      · unfold f23
        simp only []
        rw [if_neg (by simp), g1]
        simp only [Option.bind_some]
        rw [wrap_i64 (n := (b.length : Int) - a) (by omega), if_neg (by rw [decide_eq_true_eq]; omega)]
        rw [wrap_i64 (n := (a : Int) + nn) (by omega), show ((a : Int) + nn - nn) = (a : Int) by omega, wrap_i64 (n := (a : Int)) (by omega), show ((a : Int) + nn) = ((a + nn : Nat) : Int) by omega]
        rw [if_pos (by omega), if_pos (by omega), if_pos (by omega), if_pos (by omega)]
        simp only [Int.toNat_natCast]
        rw [List.drop_take, show a + nn - a = nn by omega, ← hB, f25_eqn (by rw [k3, hslen]; omega)]
        simp only [Option.bind_some, if_true]
        rfl
      · unfold f24
        simp only []
        rw [if_neg (by simp), g2]
        simp only [Option.bind_some]
        rw [wrap_i64 (n := (l.length : Int) - t') (by omega), Int.tdiv_eq_ediv_of_nonneg (by omega), wrap_i64 (n := ((l.length : Int) - t') / 8) (by omega), if_neg (by rw [decide_eq_true_eq]; omega)]
        rw [wrap_i64 (n := 8 * (nn : Int)) (by omega), wrap_i64 (n := (t' : Int) + 8 * nn) (by omega), show ((t' : Int) + 8 * nn - 8 * nn) = (t' : Int) by omega, wrap_i64 (n := (t' : Int)) (by omega), show ((t' : Int) + 8 * nn) = ((t' + 8 * nn : Nat) : Int) by omega]
        rw [if_pos (by omega), if_pos (by omega), if_pos (by omega), if_pos (by omega)]
        simp only [Int.toNat_natCast]
        rw [List.drop_take, show t' + 8 * nn - t' = 8 * nn by omega, k1]
        simp only [Option.bind_some, if_true]
      · rw [← List.drop_drop, nb_drop _ (by simp; omega), g3.num]
        unfold RV
        simp only [Nat.pow_zero, Nat.one_mul, Nat.zero_add]
        rw [← pow256]
        have hs : valB (b.drop a) = valB ((b.drop a).take nn) + 256 ^ nn * valB ((b.drop a).drop nn) := by
          have := valB_append ((b.drop a).take nn) ((b.drop a).drop nn)
          rw [List.take_append_drop, List.length_take, Nat.min_eq_left (by simp; omega)] at this
          exact this
        have hlt := valB_lt ((g3.hb.drop a).take nn)
        rw [List.length_take, Nat.min_eq_left (by simp; omega)] at hlt
        rw [hs, Nat.add_mul_div_left _ _ (Nat.pow_pos (by omega)), Nat.div_eq_of_lt hlt, List.drop_drop]
        omega

/-! ## The law -/
theorem l5_2_spec (x1 : List Int) (x2 : List OpT) (x3 : List Int) (i : Int) (rb : List Int) (a w m : Int) (l : List Bool) (t : Int) : ∀ (k j : Nat) (b : List Int), j ≤ b.length → b.length < j + k → b.length ≤ 1000000 →
    ∃ (j' : Int) (b' : List Int), loopN g5_2 o5_2 b5_2 k (x1, x2, x3, i, (j : Int), rb, a, w, m, l, t, b, ()) = some (.inl (x1, x2, x3, i, j', rb, a, w, m, l, t, b', ())) := by
  intro k
  induction k with
  | zero => intro j b h1 h2; omega
  | succ k ih =>
    intro j b h1 h2 h3
    rw [loopN_succ]
    generalize hL : loopN g5_2 o5_2 b5_2 k = L at ih ⊢
    unfold b5_2
    simp only [if_true, List.length_set]
    rcases Nat.lt_or_ge j b.length with h | h
    · rw [if_pos (by simpa using h), if_pos (by omega), if_pos (by omega), wrap_i64 (by omega)]
      simp only [Option.bind_some, Sum.elim_inl]
      exact ih (j + 1) _ (by simp; omega) (by simp; omega) (by simpa using h3)
    · rw [if_neg (by simpa using h)]
      exact ⟨_, _, rfl⟩

theorem b5_4_spec (x1 : List Int) (x2 : List OpT) (x3 : List Int) (i e : Int) (rb : List Int) (a w m : Int) (l : List Bool) (t : Int) (B : List Int) (hB : B.length ≤ 500) :
    b5_4 (x1, x2, x3, i, e, e, rb, a, w, m, l, t, B, B, ()) = some (.inl (x1, x2, x3, i, rb, a, w, m, l, t, ())) := by
  unfold b5_4
  simp only [beq_self_eq_true, Bool.not_true, if_true, bne_self_eq_false]
  rw [if_neg (by simp), if_neg (by simp)]
  obtain ⟨j', b', g⟩ := l5_2_spec x1 x2 x3 i rb a w m l t 18446744073709551616 0 B (by omega) (by omega) (by omega)
  have g' : loopN g5_2 o5_2 b5_2 18446744073709551616 (x1, x2, x3, i, 0, rb, a, w, m, l, t, B, ()) = _ := g
  rw [show l5_2 = loopN g5_2 o5_2 b5_2 18446744073709551616 from rfl, g']
  rfl

theorem b5_3_spec (x1 : List Int) (x2 : List OpT) (x3 : List Int) (i : Int) {b : List Int} {a w m : Nat} {l : List Bool} {t : Nat} (h : SameR b a w m l t) (c v n : Int) :
    ∃ (a' w' m' t' : Nat), b5_3 (x1, x2, x3, i, c, b, (a : Int), (w : Int), (m : Int), l, (t : Int), c, v, n, ()) = some (.inl (x1, x2, x3, i, b, (a' : Int), (w' : Int), (m' : Int), l, (t' : Int), ())) ∧ SameR b a' w' m' l t' := by
  unfold b5_3
  simp only []
  by_cases h0 : c = 0
  · rw [if_pos (by simp [h0])]
    obtain ⟨r, e, a', w', m', t', h1, h2, h3⟩ := bits_same h n
    rw [h1]
    simp only [Option.bind_some]
    rw [h2]
    simp only [Option.bind_some, bne_self_eq_false]
    rw [if_neg (by simp), if_neg (by simp)]
    exact ⟨a', w', m', t', rfl, h3⟩
  · rw [if_neg (by simp [h0])]
    by_cases h1 : c = 1
    · rw [if_pos (by simp [h1])]
      obtain ⟨t', g1, g2, g3⟩ := align_same h
      rw [g1]
      simp only [Option.bind_some]
      rw [g2]
      simp only [Option.bind_some, bne_self_eq_false]
      rw [if_neg (by simp)]
      exact ⟨a, 0, 0, t', rfl, g3⟩
    · rw [if_neg (by simp [h1])]
      obtain ⟨B, e, a', w', m', t', g1, g2, g3, g4⟩ := bytes_same h n
      rw [g1]
      simp only [Option.bind_some]
      rw [g2]
      simp only [Option.bind_some, if_true]
      rw [b5_4_spec x1 x2 x3 i e b _ _ _ l _ B g4]
      exact ⟨a', w', m', t', rfl, g3⟩

theorem l5_1_spec (x1 : List Int) (xs : List OpT) (x3 : List Int) (hx : xs.length ≤ 100) {b : List Int} {l : List Bool} : ∀ (k j a w m t : Nat), j ≤ xs.length → xs.length < j + k → SameR b a w m l t →
    ∃ (i : Int) (a' w' m' t' : Nat), loopN g5_1 o5_1 b5_1 k (x1, xs, x3, (j : Int), b, (a : Int), (w : Int), (m : Int), l, (t : Int), ()) = some (.inl (x1, xs, x3, i, b, (a' : Int), (w' : Int), (m' : Int), l, (t' : Int), ())) := by
  intro k
  induction k with
  | zero => intro j a w m t h1 h2; omega
  | succ k ih =>
    intro j a w m t h1 h2 hs
    rw [loopN_succ]
    generalize hL : loopN g5_1 o5_1 b5_1 k = L at ih ⊢
    unfold b5_1
    simp only [Int.toNat_natCast]
    rcases Nat.lt_or_ge j xs.length with h | h
    · rw [if_pos (by simpa using h), if_pos (by omega), if_pos (by omega)]
      generalize xs.getD j (0, 0, 0) = e
      obtain ⟨c, v, n⟩ := e
      obtain ⟨a', w', m', t', g1, g2⟩ := b5_3_spec x1 xs x3 (j : Int) hs c v n
      simp only []
      rw [g1]
      have hl := g2.hl
      have hat := g2.hat
      have hlf := g2.left
      have hbl := g2.hbl
      have ha := g2.ha
      have hm := g2.hm
      simp only [Option.bind_some, Sum.elim_inl]
      rw [f14_eqn ha (by omega) (by omega)]
      simp only [Option.bind_some]
      rw [wrap_i64 (n := (l.length : Int) - t') (by omega), if_neg (by simp; omega), wrap_i64 (by omega)]
      simp only [Option.bind_some, Sum.elim_inl]
      exact ih (j + 1) a' w' m' t' (by omega) (by omega) g2
    · rw [if_neg (by simpa using h)]
      exact ⟨_, _, _, _, _, rfl⟩

theorem bitsReads_pure (b : List Int) (xs : List OpT) (hb : Wf (.slice (.int .u8)) b) : f5 (b, xs, ()) = some (true, ()) := by
  unfold f5
  simp only []
  by_cases h1 : 500 < b.length
  · rw [if_pos (by simp; omega)]
  · rw [if_neg (by simp; omega)]
    by_cases h2 : 100 < xs.length
    · rw [if_pos (by simp; omega)]
    · rw [if_neg (by simp; omega)]
      have hB : IsB b := fun x hx => by
        have h1 : IntKind.u8.min ≤ x ∧ x ≤ IntKind.u8.max := hb.2 x hx
        rw [show IntKind.u8.min = 0 by decide, show IntKind.u8.max = 255 by decide] at h1
        omega
      have e18 : f18 (b, ()) = some (b, ()) := by
        unfold f18
        simp only [List.nil_append, if_true]
        rw [if_pos (by omega)]
      rw [e18]
      simp only [Option.bind_some, List.drop_zero, List.take_length]
      rw [f12_eqn (by omega)]
      simp only [Option.bind_some]
      obtain ⟨l, k1, k2, k3⟩ := f19_spec b hB (by omega)
      rw [k1]
      simp only [Option.bind_some]
      obtain ⟨i, a', w', m', t', g⟩ := l5_1_spec b xs b (by omega) (b := b) (l := l) 18446744073709551616 0 0 0 0 0 (by omega) (by omega)
        ⟨by omega, by simp, by omega, hB, by omega, k2, by omega, by omega, by simp [RV, k3]⟩
      have g' : loopN g5_1 o5_1 b5_1 18446744073709551616 (b, xs, b, 0, b, 0, 0, 0, l, 0, ()) = _ := g
      rw [show l5_1 = loopN g5_1 o5_1 b5_1 18446744073709551616 from rfl, g']
      simp only [Option.bind_some, Sum.elim_inl]
      rw [awake_true]
      simp only [Option.bind_some, if_true, beq_self_eq_true]
end Go.Ev.Bits
