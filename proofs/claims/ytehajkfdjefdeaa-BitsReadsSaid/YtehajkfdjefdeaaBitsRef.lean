/- Part of a proof about the given program: BitsRef. -/
import Derived.Test.YtehajkfdjefdeaaBitsBack
import Derived.Test.YtehajkfdjefdeaaRule
namespace Go.Ev.Bits

/-! ## The reference's bits as bytes -/
theorem one_rowB (b : Bool) : List.take (1 : Nat) (List.drop (0 : Nat) (List.set (List.replicate (1 : Nat) false) (0 : Nat) b)) = [b] := rfl

theorem l17_2_spec (l : List Bool) (i : Nat) (out : List Int) (hi : i < 9000000) : ∀ (k r : Nat), r ≤ i % 8 → i % 8 < r + k →
    loopN g17_2 o17_2 b17_2 k (l, (i : Int), ((2 ^ r : Nat) : Int), (r : Int), out, ()) = some (.inl (l, (i : Int), ((2 ^ (i % 8) : Nat) : Int), ((i % 8 : Nat) : Int), out, ())) := by
  intro k
  induction k with
  | zero => intro r h1 h2; omega
  | succ k ih =>
    intro r h1 h2
    rw [loopN_succ]
    have hm : Int.tmod (i : Int) 8 = ((i % 8 : Nat) : Int) := by rw [Int.tmod_eq_emod_of_nonneg (by omega)]; omega
    have hp : (2 : Nat) ^ r ≤ 128 := by
      have : (2 : Nat) ^ r ≤ 2 ^ 7 := Nat.pow_le_pow_right (by omega) (by omega)
      simpa using this
    generalize hL : loopN g17_2 o17_2 b17_2 k = L at ih ⊢
    unfold b17_2
    simp only [if_true]
    rw [hm]
    rcases Nat.lt_or_ge r (i % 8) with h | h
    · have hp' : ∀ p : Nat, p ≤ 128 → IntKind.wrap .i64 (2 * (p : Int)) = ((2 * p : Nat) : Int) := fun p h => by rw [wrap_i64 (by omega)]; omega
      rw [if_pos (by simp <;> omega), hp' _ hp, wrap_i64 (by omega)]
      simp only [Option.bind_some, Sum.elim_inl]
      have := ih (r + 1) (by omega) (by omega)
      rw [Nat.pow_succ'] at this
      exact this
    · have e : r = i % 8 := by omega
      rw [if_neg (by simp <;> omega)]
      simp only [Option.bind_some, Sum.elim_inr]
      rw [e]

/-- One more bit is set. -/
theorem l17_1_spec (l : List Bool) (hl : l.length ≤ 1000000) : ∀ (k i : Nat) (out : List Int), i ≤ l.length → i < k → IsB out → out.length = (l.length + 7) / 8 → valB out = 2 ^ i * nb (l.drop i) →
    ∃ o2 : List Int, loopN g17_1 o17_1 b17_1 k (l, (i : Int) - 1, out, ()) = some (.inl (l, -1, o2, ())) ∧ IsB o2 ∧ o2.length = (l.length + 7) / 8 ∧ valB o2 = nb l := by
  intro k
  induction k with
  | zero => intro i out _ h; omega
  | succ k ih =>
    intro i out hi hk hb hol hv
    rw [loopN_succ]
    generalize hL : loopN g17_1 o17_1 b17_1 k = L at ih ⊢
    unfold b17_1
    simp only [if_true]
    cases i with
    | zero =>
      rw [if_neg (by simp)]
      simp only [Option.bind_some, Sum.elim_inr]
      refine ⟨out, rfl, hb, hol, ?_⟩
      simpa using hv
    | succ i =>
      have e0 : (((i + 1 : Nat) : Int) - 1) = (i : Int) := by omega
      rw [e0, if_pos (by simp), if_pos (by omega), if_pos (by omega)]
      simp only [Int.toNat_natCast]
      rcases (Bool.eq_false_or_eq_true (l.getD i false)).symm with hbit | hbit
      · rw [if_neg (by rw [hbit]; simp)]
        simp only [Option.bind_some, Sum.elim_inl]
        rw [wrap_i64 (by omega)]
        have := ih i out (by omega) (by omega) hb hol (by
          rw [hv, drop_getD false (by omega : i < l.length), hbit]
          simp only [nb, Bool.toNat_false, Nat.zero_add]
          rw [Nat.pow_succ, Nat.mul_assoc])
        exact this
      · rw [if_pos hbit]
        rw [show l17_2 = loopN g17_2 o17_2 b17_2 18446744073709551616 from rfl]
        have h2 := l17_2_spec l i out (by omega) 18446744073709551616 0 (by omega) (by omega)
        have h2' : loopN g17_2 o17_2 b17_2 18446744073709551616 (l, (i : Int), 1, 0, out, ()) = _ := h2
        rw [h2']
        simp only [Option.bind_some, Sum.elim_inl]
        have hd : IntKind.wrap IntKind.i64 (Int.tdiv (i : Int) 8) = ((i / 8 : Nat) : Int) := by
          rw [Int.tdiv_eq_ediv_of_nonneg (by omega), wrap_i64 (by omega)]; omega
        have hp : (2 : Nat) ^ (i % 8) ≤ 128 := by
          have : (2 : Nat) ^ (i % 8) ≤ 2 ^ 7 := Nat.pow_le_pow_right (by omega) (by omega)
          simpa using this
        have h8 : i / 8 < out.length := by omega
        rw [hd, if_pos (by omega), if_pos (by omega), if_pos (by omega), if_pos (by omega)]
        simp only [Int.toNat_natCast, Nat.zero_add, List.length_set, if_true, wrap_u8]
        have hg := hb.get (i / 8)
        have hgv := valB_get (j := i / 8) hb
        generalize hM : nb (l.drop (i + 1)) = M at hv
        have e256 : (2 : Nat) ^ i = 256 ^ (i / 8) * 2 ^ (i % 8) := by
          rw [pow256, ← Nat.pow_add]; congr 1; omega
        have hgm : (out.getD (i / 8) 0).toNat = 2 ^ (i % 8) * ((2 * M) % 2 ^ (8 - i % 8)) := by
          rw [hgv, hv, Nat.pow_succ, e256, Nat.mul_assoc, Nat.mul_assoc, Nat.mul_div_cancel_left _ (Nat.pow_pos (by omega)), ← Nat.mul_mod_mul_left, ← Nat.pow_add, show i % 8 + (8 - i % 8) = 8 by omega]
        have hdv : 2 ^ (8 - i % 8) = 2 * 2 ^ (7 - i % 8) := by rw [← Nat.pow_succ']; congr 1; omega
        have hev : (2 * M) % 2 ^ (8 - i % 8) + 2 ≤ 2 ^ (8 - i % 8) := by
          rw [hdv, Nat.mul_mod_mul_left]
          have := Nat.mod_lt M (Nat.two_pow_pos (7 - i % 8))
          omega
        have hsum : (out.getD (i / 8) 0).toNat + 2 ^ (i % 8) < 256 := by
          rw [hgm]
          have h3 : 2 ^ (i % 8) * ((2 * M) % 2 ^ (8 - i % 8) + 2) ≤ 2 ^ (i % 8) * 2 ^ (8 - i % 8) := Nat.mul_le_mul (Nat.le_refl _) hev
          rw [← Nat.pow_add, show i % 8 + (8 - i % 8) = 8 by omega, Nat.mul_add] at h3
          have hpos := Nat.two_pow_pos (i % 8)
          have : (2:Nat)^8 = 256 := rfl
          omega
        have ev : ((out.getD (i / 8) 0 + ((2 ^ (i % 8) : Nat) : Int) % 256) % 256) = out.getD (i / 8) 0 + ((2 ^ (i % 8) : Nat) : Int) := by
          have hgen : ∀ (g : Int) (p : Nat), 0 ≤ g → p ≤ 128 → g.toNat + p < 256 → (g + (p : Int) % 256) % 256 = g + (p : Int) := fun g p h1 h2 h3 => by omega
          exact hgen _ _ hg.1 hp hsum
        rw [ev, wrap_i64 (by omega)]
        have hgen : ∀ (g : Int) (p : Nat), 0 ≤ g → g.toNat + p < 256 → (0 ≤ g + (p : Int) ∧ g + (p : Int) < 256) ∧ (g + (p : Int)).toNat = g.toNat + p := fun g p h1 h3 => by omega
        obtain ⟨hx0, hx⟩ := hgen _ _ hg.1 hsum
        refine ih i _ (by omega) (by omega) (hb.set hx0) (by simpa using hol) ?_
        have hs := valB_set (a := out) (j := i / 8) (v := out.getD (i / 8) 0 + ((2 ^ (i % 8) : Nat) : Int)) hb hx0.1 h8
        rw [hx, Nat.mul_add] at hs
        rw [drop_getD false (by omega : i < l.length), hbit]
        simp only [nb, Bool.toNat_true]
        rw [hM]
        rw [Nat.mul_add, Nat.mul_one, e256]
        rw [hv, Nat.pow_succ, e256] at hs
        have e5 : 256 ^ (i / 8) * 2 ^ (i % 8) * 2 * M = 256 ^ (i / 8) * 2 ^ (i % 8) * (2 * M) := by rw [Nat.mul_assoc (256 ^ (i / 8) * 2 ^ (i % 8))]
        omega

theorem f17_spec (l : List Bool) (hl : l.length ≤ 1000000) : ∃ B : List Int, f17 (l, ()) = some (B, ()) ∧ IsB B ∧ B.length = (l.length + 7) / 8 ∧ valB B = nb l := by
  have hd : IntKind.wrap IntKind.i64 (Int.tdiv (IntKind.wrap IntKind.i64 ((l.length : Int) + 7)) 8) = (((l.length + 7) / 8 : Nat) : Int) := by
    rw [wrap_i64 (n := (l.length : Int) + 7) (by omega), Int.tdiv_eq_ediv_of_nonneg (by omega), wrap_i64 (by omega)]; omega
  obtain ⟨B, h1, h2, h3, h4⟩ := l17_1_spec l hl 18446744073709551616 l.length (List.replicate ((l.length + 7) / 8) 0) (Nat.le_refl _) (by omega) (IsB.replicate _) (by simp) (by rw [valB_replicate]; simp [nb])
  refine ⟨B, ?_, h2, h3, h4⟩
  unfold f17
  simp only []
  rw [hd, if_pos (by omega), if_pos (by omega), if_pos (by omega)]
  simp only [Int.toNat_natCast, List.length_replicate, if_true]
  rw [wrap_i64 (by omega), show l17_1 = loopN g17_1 o17_1 b17_1 18446744073709551616 from rfl, h1]
  rfl

/-! ## The reference's Put -/
theorem tmod2 (v : Nat) : (Int.tmod (v : Int) 2 == 1) = decide (v % 2 = 1) := by
  rw [Int.tmod_eq_emod_of_nonneg (by omega)]
  rcases Nat.mod_two_eq_zero_or_one v with h | h
  · have : ((v : Int) % 2) = 0 := by omega
    rw [this, h]; rfl
  · have : ((v : Int) % 2) = 1 := by omega
    rw [this, h]; rfl
theorem tdiv2 {v : Nat} (h : v < 9223372036854775808) : IntKind.wrap IntKind.i64 (Int.tdiv (v : Int) 2) = ((v / 2 : Nat) : Int) := by
  rw [Int.tdiv_eq_ediv_of_nonneg (by omega), wrap_i64 (by omega)]; omega

theorem l15_spec (n : Nat) (hn : n ≤ 24) (l : List Bool) : ∀ (k j v : Nat) (more : List Bool), j ≤ n → n < j + k → v < 9223372036854775808 → more.length = j →
    loopN g15_1 o15_1 b15_1 k ((v : Int), (n : Int), (j : Int), l, more, ()) = some (.inl (((v / 2 ^ (n - j) : Nat) : Int), (n : Int), (n : Int), l, more ++ bitsN v (n - j), ())) := by
  intro k
  induction k with
  | zero => intro j v more h1 h2; omega
  | succ k ih =>
    intro j v more h1 h2 hv hm
    rw [loopN_succ]
    generalize hL : loopN g15_1 o15_1 b15_1 k = L at ih ⊢
    unfold b15_1
    simp only [if_true, List.drop_zero, List.take_length, one_of, List.length_append, List.length_cons, List.length_nil]
    rcases Nat.lt_or_ge j n with h | h
    · rw [if_pos (by simp <;> omega), if_pos (by omega), tdiv2 hv, wrap_i64 (by omega), tmod2]
      simp only [Option.bind_some, Sum.elim_inl]
      have := ih (j + 1) (v / 2) (more ++ [decide (v % 2 = 1)]) (by omega) (by omega) (by omega) (by simp [hm])
      rw [show n - j = (n - (j + 1)) + 1 by omega]
      simp only [bitsN]
      rw [Nat.pow_succ', ← Nat.div_div_eq_div_mul]
      simp only [List.append_assoc, List.singleton_append] at this
      exact this
    · have e : j = n := by omega
      subst e
      rw [if_neg (by simp)]
      simp only [Option.bind_some, Sum.elim_inr]
      simp [bitsN]

theorem f15_bad {v n : Int} {l : List Bool} (h : n < 0 ∨ n > 24 ∨ v < 0) : f15 (v, n, l, ()) = some (1, l, ()) := by
  unfold f15
  simp only [if_true]
  by_cases h1 : n < 0
  · rw [if_pos (by simpa using h1)]
  · rw [if_neg (by simpa using h1)]
    by_cases h2 : n > 24
    · rw [if_pos (by simpa using h2)]
    · rw [if_neg (by simpa using h2), if_pos (by simp <;> omega)]
theorem f15_run {v n : Nat} {l : List Bool} (hn : n ≤ 24) (hv : v < 9223372036854775808) (hl : l.length ≤ 1000000) : f15 ((v : Int), (n : Int), l, ()) = if v < 2 ^ n then some (0, l ++ bitsN v n, ()) else some (1, l, ()) := by
  unfold f15
  simp only [if_true]
  rw [if_neg (by simp), if_neg (by simp; omega), if_neg (by simp)]
  have h := l15_spec n hn l 18446744073709551616 0 v [] (by omega) (by omega) hv rfl
  rw [show l15_1 = loopN g15_1 o15_1 b15_1 18446744073709551616 from rfl]
  have h' : loopN g15_1 o15_1 b15_1 18446744073709551616 ((v : Int), (n : Int), 0, l, [], ()) = _ := h
  rw [h']
  simp only [Option.bind_some, Sum.elim_inl, List.nil_append, Nat.sub_zero, List.drop_zero, List.take_length, bitsN_length]
  by_cases hlt : v < 2 ^ n
  · rw [Nat.div_eq_of_lt hlt, if_neg (by simp), if_pos (by omega), if_pos hlt]
  · have : 0 < v / 2 ^ n := Nat.div_pos (by omega) (Nat.two_pow_pos n)
    rw [if_pos (by rw [decide_eq_true_eq]; exact Int.natCast_pos.2 this), if_neg hlt]
end Go.Ev.Bits
