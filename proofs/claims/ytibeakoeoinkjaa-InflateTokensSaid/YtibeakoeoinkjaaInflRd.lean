/- Part of a proof about the given program: InflRd. -/
import Derived.Test.YtibeakoeoinkjaaBig
import Derived.Test.YtibeakoeoinkjaaF
namespace Go.Ev.Inflate

/-! ## Writer -/
theorem one_row (b : Int) : List.take (1 : Nat) (List.drop (0 : Nat) (List.set (List.replicate (1 : Nat) (0 : Int)) (0 : Nat) b)) = [b] := rfl

/-! ## Copies -/
theorem f24_eqn {xs : List Int} (h : xs.length ≤ 140737488355328) : f24 (xs, ()) = some (xs, ()) := by
  unfold f24
  have e : List.take (0 : Nat) (List.drop (0 : Nat) (List.replicate (0 : Nat) (0 : Int))) ++ xs = xs := rfl
  simp only [Nat.zero_add]
  rw [e, if_pos h]
  simp only [if_true]
  by_cases h0 : xs.length = 0
  · rw [if_pos h0]
    have : xs = [] := List.eq_nil_of_length_eq_zero h0
    subst this
    exact amb_self (eq := go24.eq) go24.eq_refl _
  · rw [if_neg h0]

def outB (w m : Nat) (bs : List Int) : List Int := if 0 < m then bs ++ [((w % 256 : Nat) : Int)] else bs

/-! ## Reader -/
theorem f17_eqn {xs : List Int} (h : xs.length ≤ 140737488355328) : f17 (xs, ()) = some (xs, 0, 0, 0, ()) := by
  unfold f17
  rw [f24_eqn h]
  simp only [Option.bind_some, List.drop_zero, List.take_length]

theorem f59_eqn {b : List Int} {a : Nat} {w m : Int} (ha : a < b.length) (hl : b.length ≤ 100000) : f59 (b, (a : Int), w, m, ()) = some (b.getD a 0, b, ((a + 1 : Nat) : Int), w, m, ()) := by
  unfold f59
  simp only []
  rw [if_pos (by omega), if_pos (by omega), wrap_i64 (by omega)]
  simp only [Int.toNat_natCast]
  rfl

theorem f22_eqn {b : List Int} {a : Nat} {w : Int} {m : Nat} (ha : a ≤ b.length) (hl : b.length ≤ 100000) (hm : m ≤ 100) : f22 (b, (a : Int), w, (m : Int), ()) = some (((8 * (b.length - a) + m : Nat) : Int), b, (a : Int), w, (m : Int), ()) := by
  unfold f22
  simp only []
  rw [wrap_i64 (n := (b.length : Int) - a) (by omega), wrap_i64 (n := 8 * ((b.length : Int) - a)) (by omega), wrap_i64 (by omega)]
  congr 2
  omega

/-- What is left to read, as a number. -/
def RV (b : List Int) (a w m : Nat) : Nat := w + 2 ^ m * valB (b.drop a)

theorem drop_cons {b : List Int} {a : Nat} (ha : a < b.length) : b.drop a = b.getD a 0 :: b.drop (a + 1) := by
  rw [List.drop_eq_getElem_cons ha]
  simp [List.getD_eq_getElem?_getD, ha]

theorem b13_more {n a w m : Nat} {b : List Int} (hb : IsB b) (hm : m < n) (hn : n ≤ 24) (hw : w < 2 ^ m) (ha : a < b.length) (hl : b.length ≤ 100000) :
    ∃ w' : Nat, b25_1 ((n : Int), b, (a : Int), (w : Int), (m : Int), ()) = some (.inl ((n : Int), b, ((a + 1 : Nat) : Int), (w' : Int), ((m + 8 : Nat) : Int), ())) ∧ w' < 2 ^ (m + 8) ∧ RV b (a + 1) w' (m + 8) = RV b a w m := by
  have hx := hb (b.getD a 0) (by rw [List.getD_eq_getElem?_getD, List.getElem?_eq_getElem ha]; exact List.getElem_mem _)
  obtain ⟨x, hxe⟩ : ∃ x : Nat, b.getD a 0 = (x : Int) := ⟨(b.getD a 0).toNat, by omega⟩
  have hx256 : x < 256 := by omega
  have hpm : (2 : Nat) ^ m ≤ 16777216 := by
    have : (2 : Nat) ^ m ≤ 2 ^ 24 := Nat.pow_le_pow_right (by omega) (by omega)
    simpa using this
  have hxm : x * 2 ^ m ≤ 256 * 16777216 := Nat.mul_le_mul (by omega) hpm
  refine ⟨w + x * 2 ^ m, ?_, ?_, ?_⟩
  · unfold b25_1
    simp only []
    rw [if_pos (by simp <;> omega), f59_eqn ha hl]
    simp only [Option.bind_some, decide_true, if_true]
    rw [if_neg (by omega), hxe, wrap_i64 (n := (x : Int)) (by omega), minN (by omega)]
    have e1 : IntKind.wrap IntKind.i64 ((x : Int) * 2 ^ m) = ((x * 2 ^ m : Nat) : Int) := by
      rw [show ((x : Int) * 2 ^ m) = ((x * 2 ^ m : Nat) : Int) by simp]
      exact wrap_i64 (by omega)
    rw [e1, or64 (by omega) (by omega), or_split x hw, wrap_i64 (by omega), wrap_i64 (by omega)]
    rfl
  · rw [Nat.pow_add]
    have : x * 2 ^ m ≤ 255 * 2 ^ m := Nat.mul_le_mul (by omega) (Nat.le_refl _)
    omega
  · unfold RV
    rw [drop_cons ha, hxe]
    simp only [valB, Int.toNat_natCast]
    rw [Nat.pow_add, Nat.mul_add, ← Nat.mul_assoc, show (2 : Nat) ^ 8 = 256 from rfl]
    have := Nat.mul_comm x (2 ^ m)
    omega
theorem b13_end {n a w m : Nat} {b : List Int} (hm : n ≤ m) : b25_1 ((n : Int), b, (a : Int), (w : Int), (m : Int), ()) = some (.inr (.inl ((n : Int), b, (a : Int), (w : Int), (m : Int), ()))) := by
  unfold b25_1
  simp only []
  rw [if_neg (by simp <;> omega)]

theorem l25_spec : ∀ (k n a w m : Nat) (b : List Int), IsB b → n ≤ 24 → w < 2 ^ m → a ≤ b.length → b.length ≤ 100000 → n ≤ m + 8 * (b.length - a) → 1 ≤ k → n + 8 ≤ m + 8 * k → m < n + 8 →
    ∃ (a' w' m' : Nat), loopN g25_1 o25_1 b25_1 k ((n : Int), b, (a : Int), (w : Int), (m : Int), ()) = some (.inl ((n : Int), b, (a' : Int), (w' : Int), (m' : Int), ())) ∧ n ≤ m' ∧ m' < n + 8 ∧ w' < 2 ^ m' ∧ a' ≤ b.length ∧
      m' + 8 * (b.length - a') = m + 8 * (b.length - a) ∧ RV b a' w' m' = RV b a w m := by
  intro k
  induction k with
  | zero => intro n a w m b _ _ _ _ _ _ h; omega
  | succ k ih =>
    intro n a w m b hb hn hw ha hl hleft _ hk hm
    rw [loopN_succ]
    rcases Nat.lt_or_ge m n with h8 | h8
    · obtain ⟨w1, h1, h2, h3⟩ := b13_more (a := a) hb h8 hn hw (by omega) hl
      rw [h1]
      obtain ⟨a', w', m', g1, g2, g3, g4, g5, g6, g7⟩ := ih n (a + 1) w1 (m + 8) b hb hn h2 (by omega) hl (by omega) (by omega) (by omega) (by omega)
      exact ⟨a', w', m', g1, g2, g3, g4, g5, by omega, by rw [g7, h3]⟩
    · rw [b13_end h8]
      exact ⟨a, w, m, rfl, h8, hm, hw, ha, rfl, rfl⟩

theorem f13_good {n a w m : Nat} {b : List Int} (hb : IsB b) (hn : n ≤ 24) (hm : m < 8) (hw : w < 2 ^ m) (ha : a ≤ b.length) (hl : b.length ≤ 100000) (hleft : n ≤ m + 8 * (b.length - a)) :
    ∃ (a' w' m' : Nat), f25 ((n : Int), b, (a : Int), (w : Int), (m : Int), ()) = some (((RV b a w m % 2 ^ n : Nat) : Int), 0, b, (a' : Int), (w' : Int), (m' : Int), ()) ∧ m' < 8 ∧ w' < 2 ^ m' ∧ a' ≤ b.length ∧
      m' + 8 * (b.length - a') + n = m + 8 * (b.length - a) ∧ RV b a' w' m' = RV b a w m / 2 ^ n := by
  obtain ⟨a', w', m', g1, g2, g3, g4, g5, g6, g7⟩ := l25_spec 18446744073709551616 n a w m b hb hn hw ha hl hleft (by omega) (by omega) (by omega)
  have hsplit : (2 : Nat) ^ m' = 2 ^ n * 2 ^ (m' - n) := by rw [← Nat.pow_add]; congr 1; omega
  have hrv : RV b a w m = w' + 2 ^ n * (2 ^ (m' - n) * valB (b.drop a')) := by
    rw [← g7]; unfold RV; rw [hsplit, Nat.mul_assoc]
  have hpos : 0 < (2 : Nat) ^ n := Nat.two_pow_pos n
  have hpn : (2 : Nat) ^ n ≤ 16777216 := by
    have : (2 : Nat) ^ n ≤ 2 ^ 24 := Nat.pow_le_pow_right (by omega) (by omega)
    simpa using this
  have hpm : (2 : Nat) ^ m' ≤ 4294967296 := by
    have : (2 : Nat) ^ m' ≤ 2 ^ 32 := Nat.pow_le_pow_right (by omega) (by omega)
    simpa using this
  refine ⟨a', w' / 2 ^ n, m' - n, ?_, by omega, ?_, g5, by omega, ?_⟩
  · unfold f25
    simp only []
    rw [if_neg (by simp <;> omega), if_neg (by simp <;> omega), f22_eqn ha hl (by omega)]
    simp only [Option.bind_some]
    rw [if_neg (by simp <;> omega)]
    rw [show l25_1 = loopN g25_1 o25_1 b25_1 18446744073709551616 from rfl, g1]
    simp only [Option.bind_some, Sum.elim_inl]
    rw [if_neg (by omega), if_neg (by omega), minN (by omega)]
    have e1 : IntKind.wrap IntKind.i64 ((1 : Int) * 2 ^ n) = ((2 ^ n : Nat) : Int) := by
      rw [show ((1 : Int) * 2 ^ n) = ((2 ^ n : Nat) : Int) by simp]
      exact wrap_i64 (by omega)
    have e2 : IntKind.wrap IntKind.i64 (((2 ^ n : Nat) : Int) - 1) = ((2 ^ n - 1 : Nat) : Int) := by
      rw [wrap_i64 (by omega)]; omega
    rw [e1, e2, and64 (by omega) (by omega), Nat.and_two_pow_sub_one_eq_mod, fdiv_pow]
    have hmod : w' % 2 ^ n < 2 ^ n := Nat.mod_lt _ hpos
    rw [wrap_i64 (by omega), wrap_i64 (by omega)]
    have e3 : RV b a w m % 2 ^ n = w' % 2 ^ n := by rw [hrv, Nat.add_mul_mod_self_left]
    rw [e3]
    congr 7
    omega
  · rw [Nat.div_lt_iff_lt_mul hpos, Nat.mul_comm, ← hsplit]; exact g4
  · rw [hrv, Nat.add_mul_div_left _ _ hpos]; rfl
/-! # A reader is told by how many bits it has read -/
def ra (p : Nat) : Nat := (p + 7) / 8
def rm (p : Nat) : Nat := 8 * ((p + 7) / 8) - p
def rw' (b : List Int) (p : Nat) : Nat := valB b / 2 ^ p % 2 ^ rm p
theorem valB_drop {b : List Int} (hb : IsB b) {a : Nat} (ha : a ≤ b.length) : valB (b.drop a) = valB b / 256 ^ a := by
  have h := valB_append (b.take a) (b.drop a)
  rw [List.take_append_drop, List.length_take, Nat.min_eq_left ha] at h
  have hlt := valB_lt (a := b.take a) (hb.take a)
  rw [List.length_take, Nat.min_eq_left ha] at hlt
  rw [h, Nat.add_mul_div_left _ _ (Nat.pow_pos (by omega)), Nat.div_eq_of_lt hlt, Nat.zero_add]
theorem RV_pos {b : List Int} (hb : IsB b) {p : Nat} (hp : p ≤ 8 * b.length) : RV b (ra p) (rw' b p) (rm p) = valB b / 2 ^ p := by
  unfold RV rw'
  have e : 8 * ra p = p + rm p := by unfold ra rm; omega
  rw [valB_drop hb (by unfold ra; omega), pow256, e, Nat.pow_add, ← Nat.div_div_eq_div_mul]
  exact Nat.mod_add_div _ _
def bitsAt (b : List Int) (p n : Nat) : Nat := valB b / 2 ^ p % 2 ^ n
theorem rd_of {b : List Int} {p a w m : Nat} (hm : m < 8) (hw : w < 2 ^ m) (ha : a ≤ b.length) (hc : m + 8 * (b.length - a) + p = 8 * b.length) (hR : RV b a w m = valB b / 2 ^ p) : a = ra p ∧ w = rw' b p ∧ m = rm p := by
  have h1 : a = ra p := by unfold ra; omega
  have h3 : m = rm p := by unfold rm; omega
  refine ⟨h1, ?_, h3⟩
  unfold rw'
  rw [← hR, ← h3]
  unfold RV
  rw [Nat.add_mul_mod_self_left, Nat.mod_eq_of_lt hw]
theorem f25_left {b : List Int} (hl : b.length ≤ 100000) {p : Nat} (hp : p ≤ 8 * b.length) : f22 (b, ((ra p : Nat) : Int), ((rw' b p : Nat) : Int), ((rm p : Nat) : Int), ()) = some (((8 * b.length - p : Nat) : Int), b, ((ra p : Nat) : Int), ((rw' b p : Nat) : Int), ((rm p : Nat) : Int), ()) := by
  rw [f22_eqn (by unfold ra; omega) hl (by unfold rm; omega)]
  congr 2
  unfold ra rm
  omega
theorem f25_more {b : List Int} (hl : b.length ≤ 100000) {p n : Nat} (hp : p ≤ 8 * b.length) (hn : n ≤ 24) (h : 8 * b.length < p + n) :
    f25 ((n : Int), b, ((ra p : Nat) : Int), ((rw' b p : Nat) : Int), ((rm p : Nat) : Int), ()) = some (0, 6, b, ((ra p : Nat) : Int), ((rw' b p : Nat) : Int), ((rm p : Nat) : Int), ()) := by
  unfold f25
  dsimp only
  rw [if_neg (by rw [decide_eq_true_eq]; omega), if_neg (by rw [decide_eq_true_eq]; omega), f25_left hl hp, Option.bind_some]
  dsimp only
  rw [if_pos (by rw [decide_eq_true_eq]; omega)]
theorem f25_eqn {b : List Int} (hb : IsB b) (hl : b.length ≤ 100000) {p n : Nat} (hn : n ≤ 24) (h : p + n ≤ 8 * b.length) :
    f25 ((n : Int), b, ((ra p : Nat) : Int), ((rw' b p : Nat) : Int), ((rm p : Nat) : Int), ()) = some (((bitsAt b p n : Nat) : Int), 0, b, ((ra (p + n) : Nat) : Int), ((rw' b (p + n) : Nat) : Int), ((rm (p + n) : Nat) : Int), ()) := by
  have hR := RV_pos hb (p := p) (by omega)
  have hpow : 0 < 2 ^ rm p := Nat.two_pow_pos _
  obtain ⟨a', w', m', g1, g2, g3, g4, g5, g6⟩ := f13_good (b := b) (n := n) (a := ra p) (w := rw' b p) (m := rm p) hb hn (by unfold rm; omega) (Nat.mod_lt _ hpow) (by unfold ra; omega) hl (by unfold ra rm; omega)
  rw [hR, Nat.div_div_eq_div_mul, ← Nat.pow_add] at g6
  obtain ⟨h1, h2, h3⟩ := rd_of (p := p + n) g2 g3 g4 (by unfold ra rm at g5; omega) g6
  rw [g1, hR, h1, h2, h3]
  rfl
theorem bitsAt_lt (b : List Int) (p n : Nat) : bitsAt b p n < 2 ^ n := Nat.mod_lt _ (Nat.two_pow_pos _)
theorem f26_pos {b : List Int} (hl : b.length ≤ 100000) {p : Nat} (hp : p ≤ 8 * b.length) : f26 (b, ((ra p : Nat) : Int), ((rw' b p : Nat) : Int), ((rm p : Nat) : Int), ()) = some (0, b, ((ra (8 * ra p) : Nat) : Int), ((rw' b (8 * ra p) : Nat) : Int), ((rm (8 * ra p) : Nat) : Int), ()) := by
  unfold f26
  dsimp only
  have e1 : ra (8 * ra p) = ra p := by unfold ra; omega
  have e2 : rm (8 * ra p) = 0 := by unfold rm ra; omega
  have e3 : rw' b (8 * ra p) = 0 := by unfold rw'; rw [e2, Nat.pow_zero, Nat.mod_one]
  have e4 : Int.tdiv ((rm p : Nat) : Int) 8 = 0 := by
    rw [show Int.tdiv ((rm p : Nat) : Int) 8 = ((rm p / 8 : Nat) : Int) from rfl]; unfold rm; omega
  rw [e1, e2, e3, e4, wrap_i64 (n := (0 : Int)) (by omega), wrap_i64 (by unfold ra; omega)]
  rw [Int.sub_zero]
  rfl
theorem f27_more {b : List Int} (hl : b.length ≤ 100000) {q : Nat} (hq : q ≤ b.length) {n : Nat} (h : b.length < q + n) (hn : n ≤ 100000) :
    f27 ((n : Int), b, ((ra (8 * q) : Nat) : Int), ((rw' b (8 * q) : Nat) : Int), ((rm (8 * q) : Nat) : Int), ()) = some (6, b, ((ra (8 * q) : Nat) : Int), ((rw' b (8 * q) : Nat) : Int), ((rm (8 * q) : Nat) : Int), [], ()) := by
  have e1 : 8 * ra (8 * q) = 8 * q := by unfold ra; omega
  unfold f27
  dsimp only
  rw [if_neg (by rw [decide_eq_true_eq]; omega), f26_pos hl (by omega), Option.bind_some]
  dsimp only
  rw [e1, wrap_i64 (by unfold ra; omega), if_pos (by rw [decide_eq_true_eq]; unfold ra; omega)]
theorem f27_eqn {b : List Int} (hl : b.length ≤ 100000) {q n : Nat} (h : q + n ≤ b.length) :
    f27 ((n : Int), b, ((ra (8 * q) : Nat) : Int), ((rw' b (8 * q) : Nat) : Int), ((rm (8 * q) : Nat) : Int), ()) = some (0, b, ((ra (8 * (q + n)) : Nat) : Int), ((rw' b (8 * (q + n)) : Nat) : Int), ((rm (8 * (q + n)) : Nat) : Int), (b.drop q).take n, ()) := by
  have e1 : 8 * ra (8 * q) = 8 * q := by unfold ra; omega
  have z1 : ∀ q, ra (8 * q) = q := fun q => by unfold ra; omega
  have z2 : ∀ q, rm (8 * q) = 0 := fun q => by unfold rm; omega
  have z3 : ∀ q, rw' b (8 * q) = 0 := fun q => by unfold rw'; rw [z2, Nat.pow_zero, Nat.mod_one]
  unfold f27
  dsimp only
  rw [if_neg (by rw [decide_eq_true_eq]; omega), f26_pos hl (by omega), Option.bind_some]
  dsimp only
  rw [e1, z1, z2, z3]
  have w1 : IntKind.wrap .i64 ((q : Int) + (n : Int)) = ((q + n : Nat) : Int) := by rw [wrap_i64 (by omega)]; omega
  have w2 : IntKind.wrap .i64 (((q + n : Nat) : Int) - (n : Int)) = (q : Int) := by rw [wrap_i64 (by omega)]; omega
  rw [wrap_i64 (n := ((b.length : Nat) : Int) - (q : Int)) (by omega), if_neg (by rw [decide_eq_true_eq]; omega), w1, w2, if_pos (by omega), if_pos (by omega), if_pos (by omega), if_pos (by omega), Int.toNat_natCast, Int.toNat_natCast,
    f24_eqn (by rw [List.length_drop, List.length_take]; omega), Option.bind_some]
  dsimp only
  rw [if_pos rfl, z1, z2, z3, List.drop_take, show q + n - q = n by omega]
end Go.Ev.Inflate
