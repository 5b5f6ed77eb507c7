/- Part of a proof about the given program: Bits. -/
import Derived.Test.YtehajkfdjefdeaaNum
import Derived.Test.YtehajkfdjefdeaaF
namespace Go.Ev.Bits

/-! ## Writer -/
theorem one_row (b : Int) : List.take (1 : Nat) (List.drop (0 : Nat) (List.set (List.replicate (1 : Nat) (0 : Int)) (0 : Nat) b)) = [b] := rfl

theorem b10_more {w m : Nat} {bs : List Int} (hm : 8 ≤ m) (hm' : m ≤ 100) (hb : bs.length ≤ 100000) : b10_1 ((w : Int), (m : Int), bs, ()) = some (.inl (((w / 256 : Nat) : Int), ((m - 8 : Nat) : Int), bs ++ [((w % 256 : Nat) : Int)], ())) := by
  unfold b10_1
  simp only [List.drop_zero, List.take_length, List.length_append, wrap_u8, fdiv_256]
  rw [if_pos (by simp <;> omega), if_pos (by simp <;> omega), wrap_i64 (by omega)]
  simp only [if_true]
  congr 4
  omega
theorem b10_end {w m : Nat} {bs : List Int} (hm : m < 8) : b10_1 ((w : Int), (m : Int), bs, ()) = some (.inr (.inl ((w : Int), (m : Int), bs, ()))) := by
  unfold b10_1
  simp only [if_true]
  rw [if_neg (by simp <;> omega)]

def V (bs : List Int) (w : Nat) : Nat := valB bs + 256 ^ bs.length * w

theorem l10_spec : ∀ (k m w : Nat) (bs : List Int), m < 8 * k → m ≤ 31 → w < 2 ^ m → IsB bs → bs.length ≤ 90000 + (31 - m) →
    ∃ (w' m' : Nat) (bs' : List Int), loopN g10_1 o10_1 b10_1 k ((w : Int), (m : Int), bs, ()) = some (.inl ((w' : Int), (m' : Int), bs', ())) ∧ m' < 8 ∧ w' < 2 ^ m' ∧ IsB bs' ∧ 8 * bs'.length + m' = 8 * bs.length + m ∧ V bs' w' = V bs w := by
  intro k
  induction k with
  | zero => intro m w bs h; omega
  | succ k ih =>
    intro m w bs hk hm hw hb hl
    rw [loopN_succ]
    rcases Nat.lt_or_ge m 8 with h8 | h8
    · rw [b10_end h8]
      exact ⟨w, m, bs, rfl, h8, hw, hb, rfl, rfl⟩
    · rw [b10_more h8 (by omega) (by omega)]
      have hw' : w / 256 < 2 ^ (m - 8) := by
        rw [Nat.div_lt_iff_lt_mul (by omega), show (256 : Nat) = 2 ^ 8 by rfl, ← Nat.pow_add]
        rwa [show m - 8 + 8 = m by omega]
      obtain ⟨w', m', bs', h1, h2, h3, h4, h5, h6⟩ := ih (m - 8) (w / 256) (bs ++ [((w % 256 : Nat) : Int)]) (by omega) (by omega) hw' (hb.append (fun x hx => by rw [List.mem_singleton] at hx; rw [hx]; omega)) (by simp <;> omega)
      refine ⟨w', m', bs', h1, h2, h3, h4, by rw [h5]; simp; omega, ?_⟩
      rw [h6]
      unfold V
      rw [valB_append]
      simp only [valB, List.length_append, List.length_cons, List.length_nil, Nat.pow_succ, Nat.mul_zero, Nat.add_zero, Nat.zero_add]
      have e : w = w % 256 + 256 * (w / 256) := by omega
      have e2 : 256 ^ bs.length * w = 256 ^ bs.length * (w % 256) + 256 ^ bs.length * 256 * (w / 256) := by
        rw [Nat.mul_assoc, ← Nat.mul_add, ← e]
      simp only [Int.toNat_natCast]
      omega

/-- What Put does. -/
theorem f10_bad {v n : Int} {w m : Int} {bs : List Int} (h : n < 0 ∨ n > 24 ∨ v < 0) : f10 (v, n, w, m, bs, ()) = some (1, w, m, bs, ()) := by
  unfold f10
  simp only [if_true]
  by_cases h1 : n < 0
  · rw [if_pos (by simpa using h1)]
  · rw [if_neg (by simpa using h1)]
    by_cases h2 : n > 24
    · rw [if_pos (by simpa using h2)]
    · rw [if_neg (by simpa using h2), if_pos (by simp <;> omega)]

theorem f10_big {v n : Nat} {w m : Int} {bs : List Int} (hn : n ≤ 24) (h : 2 ^ n ≤ v) : f10 ((v : Int), (n : Int), w, m, bs, ()) = some (1, w, m, bs, ()) := by
  unfold f10
  simp only [if_true]
  rw [if_neg (by simp <;> omega), if_neg (by simp <;> omega), if_neg (by simp <;> omega), if_neg (by omega), if_pos]
  rw [minN (by omega), fdiv_pow]
  have : 0 < v / 2 ^ n := Nat.div_pos h (Nat.two_pow_pos n)
  simp only [bne_iff_ne, ne_eq]
  omega

theorem f10_good {v n w m : Nat} {bs : List Int} (hn : n ≤ 24) (hv : v < 2 ^ n) (hm : m < 8) (hw : w < 2 ^ m) (hb : IsB bs) (hl : bs.length ≤ 90000) :
    ∃ (w' m' : Nat) (bs' : List Int), f10 ((v : Int), (n : Int), (w : Int), (m : Int), bs, ()) = some (0, (w' : Int), (m' : Int), bs', ()) ∧ m' < 8 ∧ w' < 2 ^ m' ∧ IsB bs' ∧ 8 * bs'.length + m' = 8 * bs.length + m + n ∧ V bs' w' = V bs w + v * 2 ^ (8 * bs.length + m) := by
  have hpm : (2 : Nat) ^ m ≤ 128 := by
    have : (2 : Nat) ^ m ≤ 2 ^ 7 := Nat.pow_le_pow_right (by omega) (by omega)
    simpa using this
  have hpn : (2 : Nat) ^ n ≤ 16777216 := by
    have : (2 : Nat) ^ n ≤ 2 ^ 24 := Nat.pow_le_pow_right (by omega) (by omega)
    simpa using this
  have hvm : v * 2 ^ m ≤ 16777216 * 128 := Nat.mul_le_mul (by omega) hpm
  have hwv : w + v * 2 ^ m < 2 ^ (m + n) := by
    have h1 : (v + 1) * 2 ^ m ≤ 2 ^ n * 2 ^ m := Nat.mul_le_mul (by omega) (Nat.le_refl _)
    rw [Nat.pow_add, Nat.mul_comm (2 ^ m)]
    rw [Nat.succ_mul] at h1
    omega
  obtain ⟨w', m', bs', h1, h2, h3, h4, h5, h6⟩ := l10_spec 18446744073709551616 (m + n) (w + v * 2 ^ m) bs (by omega) (by omega) hwv hb (by omega)
  refine ⟨w', m', bs', ?_, h2, h3, h4, by omega, ?_⟩
  · unfold f10
    simp only [if_true]
    rw [if_neg (by simp <;> omega), if_neg (by simp <;> omega), if_neg (by simp <;> omega), if_neg (by omega), if_neg, if_neg (by omega)]
    · rw [minN (by omega)]
      have e1 : IntKind.wrap IntKind.i64 ((v : Int) * 2 ^ m) = ((v * 2 ^ m : Nat) : Int) := by
        rw [show ((v : Int) * 2 ^ m) = ((v * 2 ^ m : Nat) : Int) by simp]
        exact wrap_i64 (by omega)
      rw [e1, or64 (by omega) (by omega), or_split v hw, wrap_i64 (by omega), wrap_i64 (by omega)]
      rw [show ((m : Int) + (n : Int)) = ((m + n : Nat) : Int) by simp]
      rw [show l10_1 = loopN g10_1 o10_1 b10_1 18446744073709551616 from rfl, h1]
      rfl
    · rw [minN (by omega), fdiv_pow, Nat.div_eq_of_lt hv]
      simp
  · rw [h6]
    unfold V
    rw [Nat.mul_add, Nat.pow_add, ← pow256, Nat.mul_comm v (256 ^ bs.length * 2 ^ m), Nat.mul_assoc, Nat.mul_comm (2 ^ m) v]
    omega

/-! ## Copies -/
theorem f25_eqn {xs : List Int} (h : xs.length ≤ 140737488355328) : f25 (xs, ()) = some (xs, ()) := by
  unfold f25
  have e : List.take (0 : Nat) (List.drop (0 : Nat) (List.replicate (0 : Nat) (0 : Int))) ++ xs = xs := rfl
  simp only [Nat.zero_add]
  rw [e, if_pos h]
  simp only [if_true]
  by_cases h0 : xs.length = 0
  · rw [if_pos h0]
    have : xs = [] := List.eq_nil_of_length_eq_zero h0
    subst this
    exact amb_self (eq := go25.eq) go25.eq_refl _
  · rw [if_neg h0]

def outB (w m : Nat) (bs : List Int) : List Int := if 0 < m then bs ++ [((w % 256 : Nat) : Int)] else bs

theorem f11_eqn {w m : Nat} {bs : List Int} (h : bs.length ≤ 90000) : f11 ((w : Int), (m : Int), bs, ()) = some ((w : Int), (m : Int), bs, outB w m bs, ()) := by
  unfold f11
  simp only [List.drop_zero, List.take_length]
  rw [f25_eqn (by omega)]
  simp only [Option.bind_some, wrap_u8, if_true]
  unfold outB
  by_cases h0 : 0 < m
  · rw [if_pos (by simp <;> omega), if_pos (by simp <;> omega), if_pos h0]
    rfl
  · rw [if_neg (by simp <;> omega), if_neg h0]

/-! ## Reader -/
theorem f12_eqn {xs : List Int} (h : xs.length ≤ 140737488355328) : f12 (xs, ()) = some (xs, 0, 0, 0, ()) := by
  unfold f12
  rw [f25_eqn h]
  simp only [Option.bind_some, List.drop_zero, List.take_length]

theorem f42_eqn {b : List Int} {a : Nat} {w m : Int} (ha : a < b.length) (hl : b.length ≤ 100000) : f42 (b, (a : Int), w, m, ()) = some (b.getD a 0, b, ((a + 1 : Nat) : Int), w, m, ()) := by
  unfold f42
  simp only []
  rw [if_pos (by omega), if_pos (by omega), wrap_i64 (by omega)]
  simp only [Int.toNat_natCast]
  rfl

theorem f14_eqn {b : List Int} {a : Nat} {w : Int} {m : Nat} (ha : a ≤ b.length) (hl : b.length ≤ 100000) (hm : m ≤ 100) : f14 (b, (a : Int), w, (m : Int), ()) = some (((8 * (b.length - a) + m : Nat) : Int), b, (a : Int), w, (m : Int), ()) := by
  unfold f14
  simp only []
  rw [wrap_i64 (n := (b.length : Int) - a) (by omega), wrap_i64 (n := 8 * ((b.length : Int) - a)) (by omega), wrap_i64 (by omega)]
  congr 2
  omega

/-- What is left to read, as a number. -/
def RV (b : List Int) (a w m : Nat) : Nat := w + 2 ^ m * valB (b.drop a)

theorem drop_cons {b : List Int} {a : Nat} (ha : a < b.length) : b.drop a = b.getD a 0 :: b.drop (a + 1) := by
  rw [List.drop_eq_getElem_cons ha]
  simp [List.getD_eq_getElem?_getD, ha]

theorem b13_more {n a w m : Nat} {b : List Int} (hb : IsB b) (hm : m < n) (hn : n ≤ 24) (hw : w < 2 ^ m) (ha : a < b.length) (hl : b.length ≤ 100000) :
    ∃ w' : Nat, b13_1 ((n : Int), b, (a : Int), (w : Int), (m : Int), ()) = some (.inl ((n : Int), b, ((a + 1 : Nat) : Int), (w' : Int), ((m + 8 : Nat) : Int), ())) ∧ w' < 2 ^ (m + 8) ∧ RV b (a + 1) w' (m + 8) = RV b a w m := by
  have hx := hb (b.getD a 0) (by rw [List.getD_eq_getElem?_getD, List.getElem?_eq_getElem ha]; exact List.getElem_mem _)
  obtain ⟨x, hxe⟩ : ∃ x : Nat, b.getD a 0 = (x : Int) := ⟨(b.getD a 0).toNat, by omega⟩
  have hx256 : x < 256 := by omega
  have hpm : (2 : Nat) ^ m ≤ 16777216 := by
    have : (2 : Nat) ^ m ≤ 2 ^ 24 := Nat.pow_le_pow_right (by omega) (by omega)
    simpa using this
  have hxm : x * 2 ^ m ≤ 256 * 16777216 := Nat.mul_le_mul (by omega) hpm
  refine ⟨w + x * 2 ^ m, ?_, ?_, ?_⟩
  · unfold b13_1
    simp only []
    rw [if_pos (by simp <;> omega), f42_eqn ha hl]
    simp only [Option.bind_some, decide_true, if_true]
    rw [if_neg (by omega), hxe, wrap_i64 (n := (x : Int)) (by omega), minN (by omega)]
    have e1 : IntKind.wrap IntKind.i64 ((x : Int) * 2 ^ m) = ((x * 2 ^ m : Nat) : Int) := by
      rw [show ((x : Int) * 2 ^ m) = ((x * 2 ^ m : Nat) : Int) by simp]
      exact wrap_i64 (by omega)
    rw [e1, or64 (by omega) (by omega), or_split x hw, wrap_i64 (by omega), wrap_i64 (by omega)]
    rfl
  · rw [Nat.pow_add]
    have : x * 2 ^ m ≤ 255 * 2 ^ m := Nat.mul_le_mul (by omega) (Nat.le_refl _)
    omega
  · unfold RV
    rw [drop_cons ha, hxe]
    simp only [valB, Int.toNat_natCast]
    rw [Nat.pow_add, Nat.mul_add, ← Nat.mul_assoc, show (2 : Nat) ^ 8 = 256 from rfl]
    have := Nat.mul_comm x (2 ^ m)
    omega
theorem b13_end {n a w m : Nat} {b : List Int} (hm : n ≤ m) : b13_1 ((n : Int), b, (a : Int), (w : Int), (m : Int), ()) = some (.inr (.inl ((n : Int), b, (a : Int), (w : Int), (m : Int), ()))) := by
  unfold b13_1
  simp only []
  rw [if_neg (by simp <;> omega)]

theorem l13_spec : ∀ (k n a w m : Nat) (b : List Int), IsB b → n ≤ 24 → w < 2 ^ m → a ≤ b.length → b.length ≤ 100000 → n ≤ m + 8 * (b.length - a) → 1 ≤ k → n + 8 ≤ m + 8 * k → m < n + 8 →
    ∃ (a' w' m' : Nat), loopN g13_1 o13_1 b13_1 k ((n : Int), b, (a : Int), (w : Int), (m : Int), ()) = some (.inl ((n : Int), b, (a' : Int), (w' : Int), (m' : Int), ())) ∧ n ≤ m' ∧ m' < n + 8 ∧ w' < 2 ^ m' ∧ a' ≤ b.length ∧
      m' + 8 * (b.length - a') = m + 8 * (b.length - a) ∧ RV b a' w' m' = RV b a w m := by
  intro k
  induction k with
  | zero => intro n a w m b _ _ _ _ _ _ h; omega
  | succ k ih =>
    intro n a w m b hb hn hw ha hl hleft _ hk hm
    rw [loopN_succ]
    rcases Nat.lt_or_ge m n with h8 | h8
    · obtain ⟨w1, h1, h2, h3⟩ := b13_more (a := a) hb h8 hn hw (by omega) hl
      rw [h1]
      obtain ⟨a', w', m', g1, g2, g3, g4, g5, g6, g7⟩ := ih n (a + 1) w1 (m + 8) b hb hn h2 (by omega) hl (by omega) (by omega) (by omega) (by omega)
      exact ⟨a', w', m', g1, g2, g3, g4, g5, by omega, by rw [g7, h3]⟩
    · rw [b13_end h8]
      exact ⟨a, w, m, rfl, h8, hm, hw, ha, rfl, rfl⟩

theorem f13_good {n a w m : Nat} {b : List Int} (hb : IsB b) (hn : n ≤ 24) (hm : m < 8) (hw : w < 2 ^ m) (ha : a ≤ b.length) (hl : b.length ≤ 100000) (hleft : n ≤ m + 8 * (b.length - a)) :
    ∃ (a' w' m' : Nat), f13 ((n : Int), b, (a : Int), (w : Int), (m : Int), ()) = some (((RV b a w m % 2 ^ n : Nat) : Int), 0, b, (a' : Int), (w' : Int), (m' : Int), ()) ∧ m' < 8 ∧ w' < 2 ^ m' ∧ a' ≤ b.length ∧
      m' + 8 * (b.length - a') + n = m + 8 * (b.length - a) ∧ RV b a' w' m' = RV b a w m / 2 ^ n := by
  obtain ⟨a', w', m', g1, g2, g3, g4, g5, g6, g7⟩ := l13_spec 18446744073709551616 n a w m b hb hn hw ha hl hleft (by omega) (by omega) (by omega)
  have hsplit : (2 : Nat) ^ m' = 2 ^ n * 2 ^ (m' - n) := by rw [← Nat.pow_add]; congr 1; omega
  have hrv : RV b a w m = w' + 2 ^ n * (2 ^ (m' - n) * valB (b.drop a')) := by
    rw [← g7]; unfold RV; rw [hsplit, Nat.mul_assoc]
  have hpos : 0 < (2 : Nat) ^ n := Nat.two_pow_pos n
  have hpn : (2 : Nat) ^ n ≤ 16777216 := by
    have : (2 : Nat) ^ n ≤ 2 ^ 24 := Nat.pow_le_pow_right (by omega) (by omega)
    simpa using this
  have hpm : (2 : Nat) ^ m' ≤ 4294967296 := by
    have : (2 : Nat) ^ m' ≤ 2 ^ 32 := Nat.pow_le_pow_right (by omega) (by omega)
    simpa using this
  refine ⟨a', w' / 2 ^ n, m' - n, ?_, by omega, ?_, g5, by omega, ?_⟩
  · unfold f13
    simp only []
    rw [if_neg (by simp <;> omega), if_neg (by simp <;> omega), f14_eqn ha hl (by omega)]
    simp only [Option.bind_some]
    rw [if_neg (by simp <;> omega)]
    rw [show l13_1 = loopN g13_1 o13_1 b13_1 18446744073709551616 from rfl, g1]
    simp only [Option.bind_some, Sum.elim_inl]
    rw [if_neg (by omega), if_neg (by omega), minN (by omega)]
    have e1 : IntKind.wrap IntKind.i64 ((1 : Int) * 2 ^ n) = ((2 ^ n : Nat) : Int) := by
      rw [show ((1 : Int) * 2 ^ n) = ((2 ^ n : Nat) : Int) by simp]
      exact wrap_i64 (by omega)
    have e2 : IntKind.wrap IntKind.i64 (((2 ^ n : Nat) : Int) - 1) = ((2 ^ n - 1 : Nat) : Int) := by
      rw [wrap_i64 (by omega)]; omega
    rw [e1, e2, and64 (by omega) (by omega), Nat.and_two_pow_sub_one_eq_mod, fdiv_pow]
    have hmod : w' % 2 ^ n < 2 ^ n := Nat.mod_lt _ hpos
    rw [wrap_i64 (by omega), wrap_i64 (by omega)]
    have e3 : RV b a w m % 2 ^ n = w' % 2 ^ n := by rw [hrv, Nat.add_mul_mod_self_left]
    rw [e3]
    congr 7
    omega
  · rw [Nat.div_lt_iff_lt_mul hpos, Nat.mul_comm, ← hsplit]; exact g4
  · rw [hrv, Nat.add_mul_div_left _ _ hpos]; rfl
end Go.Ev.Bits
