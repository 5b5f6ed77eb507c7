/- Part of a proof about the given program: HuffRAll. -/
import Derived.Test.YtcpkgneomhpipaaBig
import Derived.Test.YtcpkgneomhpipaaF
import Derived.Test.YtcpkgneomhpipaaRule
namespace Go.Ev.Huff

/-! ## Writer -/
theorem one_row (b : Int) : List.take (1 : Nat) (List.drop (0 : Nat) (List.set (List.replicate (1 : Nat) (0 : Int)) (0 : Nat) b)) = [b] := rfl

/-! ## Copies -/
theorem f33_eqn {xs : List Int} (h : xs.length ≤ 140737488355328) : f33 (xs, ()) = some (xs, ()) := by
  unfold f33
  have e : List.take (0 : Nat) (List.drop (0 : Nat) (List.replicate (0 : Nat) (0 : Int))) ++ xs = xs := rfl
  simp only [Nat.zero_add]
  rw [e, if_pos h]
  simp only [if_true]
  by_cases h0 : xs.length = 0
  · rw [if_pos h0]
    have : xs = [] := List.eq_nil_of_length_eq_zero h0
    subst this
    exact amb_self (eq := go33.eq) go33.eq_refl _
  · rw [if_neg h0]

def outB (w m : Nat) (bs : List Int) : List Int := if 0 < m then bs ++ [((w % 256 : Nat) : Int)] else bs

/-! ## Reader -/
theorem f22_eqn {xs : List Int} (h : xs.length ≤ 140737488355328) : f22 (xs, ()) = some (xs, 0, 0, 0, ()) := by
  unfold f22
  rw [f33_eqn h]
  simp only [Option.bind_some, List.drop_zero, List.take_length]

theorem f57_eqn {b : List Int} {a : Nat} {w m : Int} (ha : a < b.length) (hl : b.length ≤ 100000) : f57 (b, (a : Int), w, m, ()) = some (b.getD a 0, b, ((a + 1 : Nat) : Int), w, m, ()) := by
  unfold f57
  simp only []
  rw [if_pos (by omega), if_pos (by omega), wrap_i64 (by omega)]
  simp only [Int.toNat_natCast]
  rfl

theorem f26_eqn {b : List Int} {a : Nat} {w : Int} {m : Nat} (ha : a ≤ b.length) (hl : b.length ≤ 100000) (hm : m ≤ 100) : f26 (b, (a : Int), w, (m : Int), ()) = some (((8 * (b.length - a) + m : Nat) : Int), b, (a : Int), w, (m : Int), ()) := by
  unfold f26
  simp only []
  rw [wrap_i64 (n := (b.length : Int) - a) (by omega), wrap_i64 (n := 8 * ((b.length : Int) - a)) (by omega), wrap_i64 (by omega)]
  congr 2
  omega

/-- What is left to read, as a number. -/
def RV (b : List Int) (a w m : Nat) : Nat := w + 2 ^ m * valB (b.drop a)

theorem drop_cons {b : List Int} {a : Nat} (ha : a < b.length) : b.drop a = b.getD a 0 :: b.drop (a + 1) := by
  rw [List.drop_eq_getElem_cons ha]
  simp [List.getD_eq_getElem?_getD, ha]

theorem b13_more {n a w m : Nat} {b : List Int} (hb : IsB b) (hm : m < n) (hn : n ≤ 24) (hw : w < 2 ^ m) (ha : a < b.length) (hl : b.length ≤ 100000) :
    ∃ w' : Nat, b34_1 ((n : Int), b, (a : Int), (w : Int), (m : Int), ()) = some (.inl ((n : Int), b, ((a + 1 : Nat) : Int), (w' : Int), ((m + 8 : Nat) : Int), ())) ∧ w' < 2 ^ (m + 8) ∧ RV b (a + 1) w' (m + 8) = RV b a w m := by
  have hx := hb (b.getD a 0) (by rw [List.getD_eq_getElem?_getD, List.getElem?_eq_getElem ha]; exact List.getElem_mem _)
  obtain ⟨x, hxe⟩ : ∃ x : Nat, b.getD a 0 = (x : Int) := ⟨(b.getD a 0).toNat, by omega⟩
  have hx256 : x < 256 := by omega
  have hpm : (2 : Nat) ^ m ≤ 16777216 := by
    have : (2 : Nat) ^ m ≤ 2 ^ 24 := Nat.pow_le_pow_right (by omega) (by omega)
    simpa using this
  have hxm : x * 2 ^ m ≤ 256 * 16777216 := Nat.mul_le_mul (by omega) hpm
  refine ⟨w + x * 2 ^ m, ?_, ?_, ?_⟩
  · unfold b34_1
    simp only []
    rw [if_pos (by simp <;> omega), f57_eqn ha hl]
    simp only [Option.bind_some, decide_true, if_true]
    rw [if_neg (by omega), hxe, wrap_i64 (n := (x : Int)) (by omega), minN (by omega)]
    have e1 : IntKind.wrap IntKind.i64 ((x : Int) * 2 ^ m) = ((x * 2 ^ m : Nat) : Int) := by
      rw [show ((x : Int) * 2 ^ m) = ((x * 2 ^ m : Nat) : Int) by simp]
      exact wrap_i64 (by omega)
    rw [e1, or64 (by omega) (by omega), or_split x hw, wrap_i64 (by omega), wrap_i64 (by omega)]
    rfl
  · rw [Nat.pow_add]
    have : x * 2 ^ m ≤ 255 * 2 ^ m := Nat.mul_le_mul (by omega) (Nat.le_refl _)
    omega
  · unfold RV
    rw [drop_cons ha, hxe]
    simp only [valB, Int.toNat_natCast]
    rw [Nat.pow_add, Nat.mul_add, ← Nat.mul_assoc, show (2 : Nat) ^ 8 = 256 from rfl]
    have := Nat.mul_comm x (2 ^ m)
    omega
theorem b13_end {n a w m : Nat} {b : List Int} (hm : n ≤ m) : b34_1 ((n : Int), b, (a : Int), (w : Int), (m : Int), ()) = some (.inr (.inl ((n : Int), b, (a : Int), (w : Int), (m : Int), ()))) := by
  unfold b34_1
  simp only []
  rw [if_neg (by simp <;> omega)]

theorem l34_spec : ∀ (k n a w m : Nat) (b : List Int), IsB b → n ≤ 24 → w < 2 ^ m → a ≤ b.length → b.length ≤ 100000 → n ≤ m + 8 * (b.length - a) → 1 ≤ k → n + 8 ≤ m + 8 * k → m < n + 8 →
    ∃ (a' w' m' : Nat), loopN g34_1 o34_1 b34_1 k ((n : Int), b, (a : Int), (w : Int), (m : Int), ()) = some (.inl ((n : Int), b, (a' : Int), (w' : Int), (m' : Int), ())) ∧ n ≤ m' ∧ m' < n + 8 ∧ w' < 2 ^ m' ∧ a' ≤ b.length ∧
      m' + 8 * (b.length - a') = m + 8 * (b.length - a) ∧ RV b a' w' m' = RV b a w m := by
  intro k
  induction k with
  | zero => intro n a w m b _ _ _ _ _ _ h; omega
  | succ k ih =>
    intro n a w m b hb hn hw ha hl hleft _ hk hm
    rw [loopN_succ]
    rcases Nat.lt_or_ge m n with h8 | h8
    · obtain ⟨w1, h1, h2, h3⟩ := b13_more (a := a) hb h8 hn hw (by omega) hl
      rw [h1]
      obtain ⟨a', w', m', g1, g2, g3, g4, g5, g6, g7⟩ := ih n (a + 1) w1 (m + 8) b hb hn h2 (by omega) hl (by omega) (by omega) (by omega) (by omega)
      exact ⟨a', w', m', g1, g2, g3, g4, g5, by omega, by rw [g7, h3]⟩
    · rw [b13_end h8]
      exact ⟨a, w, m, rfl, h8, hm, hw, ha, rfl, rfl⟩

theorem f13_good {n a w m : Nat} {b : List Int} (hb : IsB b) (hn : n ≤ 24) (hm : m < 8) (hw : w < 2 ^ m) (ha : a ≤ b.length) (hl : b.length ≤ 100000) (hleft : n ≤ m + 8 * (b.length - a)) :
    ∃ (a' w' m' : Nat), f34 ((n : Int), b, (a : Int), (w : Int), (m : Int), ()) = some (((RV b a w m % 2 ^ n : Nat) : Int), 0, b, (a' : Int), (w' : Int), (m' : Int), ()) ∧ m' < 8 ∧ w' < 2 ^ m' ∧ a' ≤ b.length ∧
      m' + 8 * (b.length - a') + n = m + 8 * (b.length - a) ∧ RV b a' w' m' = RV b a w m / 2 ^ n := by
  obtain ⟨a', w', m', g1, g2, g3, g4, g5, g6, g7⟩ := l34_spec 18446744073709551616 n a w m b hb hn hw ha hl hleft (by omega) (by omega) (by omega)
  have hsplit : (2 : Nat) ^ m' = 2 ^ n * 2 ^ (m' - n) := by rw [← Nat.pow_add]; congr 1; omega
  have hrv : RV b a w m = w' + 2 ^ n * (2 ^ (m' - n) * valB (b.drop a')) := by
    rw [← g7]; unfold RV; rw [hsplit, Nat.mul_assoc]
  have hpos : 0 < (2 : Nat) ^ n := Nat.two_pow_pos n
  have hpn : (2 : Nat) ^ n ≤ 16777216 := by
    have : (2 : Nat) ^ n ≤ 2 ^ 24 := Nat.pow_le_pow_right (by omega) (by omega)
    simpa using this
  have hpm : (2 : Nat) ^ m' ≤ 4294967296 := by
    have : (2 : Nat) ^ m' ≤ 2 ^ 32 := Nat.pow_le_pow_right (by omega) (by omega)
    simpa using this
  refine ⟨a', w' / 2 ^ n, m' - n, ?_, by omega, ?_, g5, by omega, ?_⟩
  · unfold f34
    simp only []
    rw [if_neg (by simp <;> omega), if_neg (by simp <;> omega), f26_eqn ha hl (by omega)]
    simp only [Option.bind_some]
    rw [if_neg (by simp <;> omega)]
    rw [show l34_1 = loopN g34_1 o34_1 b34_1 18446744073709551616 from rfl, g1]
    simp only [Option.bind_some, Sum.elim_inl]
    rw [if_neg (by omega), if_neg (by omega), minN (by omega)]
    have e1 : IntKind.wrap IntKind.i64 ((1 : Int) * 2 ^ n) = ((2 ^ n : Nat) : Int) := by
      rw [show ((1 : Int) * 2 ^ n) = ((2 ^ n : Nat) : Int) by simp]
      exact wrap_i64 (by omega)
    have e2 : IntKind.wrap IntKind.i64 (((2 ^ n : Nat) : Int) - 1) = ((2 ^ n - 1 : Nat) : Int) := by
      rw [wrap_i64 (by omega)]; omega
    rw [e1, e2, and64 (by omega) (by omega), Nat.and_two_pow_sub_one_eq_mod, fdiv_pow]
    have hmod : w' % 2 ^ n < 2 ^ n := Nat.mod_lt _ hpos
    rw [wrap_i64 (by omega), wrap_i64 (by omega)]
    have e3 : RV b a w m % 2 ^ n = w' % 2 ^ n := by rw [hrv, Nat.add_mul_mod_self_left]
    rw [e3]
    congr 7
    omega
  · rw [Nat.div_lt_iff_lt_mul hpos, Nat.mul_comm, ← hsplit]; exact g4
  · rw [hrv, Nat.add_mul_div_left _ _ hpos]; rfl
/-! # A reader is told by how many bits it has read -/
def ra (p : Nat) : Nat := (p + 7) / 8
def rm (p : Nat) : Nat := 8 * ((p + 7) / 8) - p
def rw' (b : List Int) (p : Nat) : Nat := valB b / 2 ^ p % 2 ^ rm p
theorem valB_drop {b : List Int} (hb : IsB b) {a : Nat} (ha : a ≤ b.length) : valB (b.drop a) = valB b / 256 ^ a := by
  have h := valB_append (b.take a) (b.drop a)
  rw [List.take_append_drop, List.length_take, Nat.min_eq_left ha] at h
  have hlt := valB_lt (a := b.take a) (hb.take a)
  rw [List.length_take, Nat.min_eq_left ha] at hlt
  rw [h, Nat.add_mul_div_left _ _ (Nat.pow_pos (by omega)), Nat.div_eq_of_lt hlt, Nat.zero_add]
theorem RV_pos {b : List Int} (hb : IsB b) {p : Nat} (hp : p ≤ 8 * b.length) : RV b (ra p) (rw' b p) (rm p) = valB b / 2 ^ p := by
  unfold RV rw'
  have e : 8 * ra p = p + rm p := by unfold ra rm; omega
  rw [valB_drop hb (by unfold ra; omega), pow256, e, Nat.pow_add, ← Nat.div_div_eq_div_mul]
  exact Nat.mod_add_div _ _
def bitsAt (b : List Int) (p n : Nat) : Nat := valB b / 2 ^ p % 2 ^ n
theorem rd_of {b : List Int} {p a w m : Nat} (hm : m < 8) (hw : w < 2 ^ m) (ha : a ≤ b.length) (hc : m + 8 * (b.length - a) + p = 8 * b.length) (hR : RV b a w m = valB b / 2 ^ p) : a = ra p ∧ w = rw' b p ∧ m = rm p := by
  have h1 : a = ra p := by unfold ra; omega
  have h3 : m = rm p := by unfold rm; omega
  refine ⟨h1, ?_, h3⟩
  unfold rw'
  rw [← hR, ← h3]
  unfold RV
  rw [Nat.add_mul_mod_self_left, Nat.mod_eq_of_lt hw]
theorem f25_left {b : List Int} (hl : b.length ≤ 100000) {p : Nat} (hp : p ≤ 8 * b.length) : f26 (b, ((ra p : Nat) : Int), ((rw' b p : Nat) : Int), ((rm p : Nat) : Int), ()) = some (((8 * b.length - p : Nat) : Int), b, ((ra p : Nat) : Int), ((rw' b p : Nat) : Int), ((rm p : Nat) : Int), ()) := by
  rw [f26_eqn (by unfold ra; omega) hl (by unfold rm; omega)]
  congr 2
  unfold ra rm
  omega
theorem f25_more {b : List Int} (hl : b.length ≤ 100000) {p n : Nat} (hp : p ≤ 8 * b.length) (hn : n ≤ 24) (h : 8 * b.length < p + n) :
    f34 ((n : Int), b, ((ra p : Nat) : Int), ((rw' b p : Nat) : Int), ((rm p : Nat) : Int), ()) = some (0, 6, b, ((ra p : Nat) : Int), ((rw' b p : Nat) : Int), ((rm p : Nat) : Int), ()) := by
  unfold f34
  dsimp only
  rw [if_neg (by rw [decide_eq_true_eq]; omega), if_neg (by rw [decide_eq_true_eq]; omega), f25_left hl hp, Option.bind_some]
  dsimp only
  rw [if_pos (by rw [decide_eq_true_eq]; omega)]
theorem f34_eqn {b : List Int} (hb : IsB b) (hl : b.length ≤ 100000) {p n : Nat} (hn : n ≤ 24) (h : p + n ≤ 8 * b.length) :
    f34 ((n : Int), b, ((ra p : Nat) : Int), ((rw' b p : Nat) : Int), ((rm p : Nat) : Int), ()) = some (((bitsAt b p n : Nat) : Int), 0, b, ((ra (p + n) : Nat) : Int), ((rw' b (p + n) : Nat) : Int), ((rm (p + n) : Nat) : Int), ()) := by
  have hR := RV_pos hb (p := p) (by omega)
  have hpow : 0 < 2 ^ rm p := Nat.two_pow_pos _
  obtain ⟨a', w', m', g1, g2, g3, g4, g5, g6⟩ := f13_good (b := b) (n := n) (a := ra p) (w := rw' b p) (m := rm p) hb hn (by unfold rm; omega) (Nat.mod_lt _ hpow) (by unfold ra; omega) hl (by unfold ra rm; omega)
  rw [hR, Nat.div_div_eq_div_mul, ← Nat.pow_add] at g6
  obtain ⟨h1, h2, h3⟩ := rd_of (p := p + n) g2 g3 g4 (by unfold ra rm at g5; omega) g6
  rw [g1, hR, h1, h2, h3]
  rfl
theorem bitsAt_lt (b : List Int) (p n : Nat) : bitsAt b p n < 2 ^ n := Nat.mod_lt _ (Nat.two_pow_pos _)
end Go.Ev.Huff
namespace Go.Ev.Huff

/-! ## The reference's bits as bytes -/
theorem one_rowB (b : Bool) : List.take (1 : Nat) (List.drop (0 : Nat) (List.set (List.replicate (1 : Nat) false) (0 : Nat) b)) = [b] := rfl

theorem l21_2_spec (l : List Bool) (i : Nat) (out : List Int) (hi : i < 9000000) : ∀ (k r : Nat), r ≤ i % 8 → i % 8 < r + k →
    loopN g21_2 o21_2 b21_2 k (l, (i : Int), ((2 ^ r : Nat) : Int), (r : Int), out, ()) = some (.inl (l, (i : Int), ((2 ^ (i % 8) : Nat) : Int), out, ())) := by
  intro k
  induction k with
  | zero => intro r h1 h2; omega
  | succ k ih =>
    intro r h1 h2
    rw [loopN_succ]
    have hm : Int.tmod (i : Int) 8 = ((i % 8 : Nat) : Int) := by rw [Int.tmod_eq_emod_of_nonneg (by omega)]; omega
    have hp : (2 : Nat) ^ r ≤ 128 := by
      have : (2 : Nat) ^ r ≤ 2 ^ 7 := Nat.pow_le_pow_right (by omega) (by omega)
      simpa using this
    generalize hL : loopN g21_2 o21_2 b21_2 k = L at ih ⊢
    unfold b21_2
    simp only [if_true]
    rw [hm]
    rcases Nat.lt_or_ge r (i % 8) with h | h
    · have hp' : ∀ p : Nat, p ≤ 128 → IntKind.wrap .i64 (2 * (p : Int)) = ((2 * p : Nat) : Int) := fun p h => by rw [wrap_i64 (by omega)]; omega
      rw [if_pos (by simp <;> omega), hp' _ hp, wrap_i64 (by omega)]
      simp only [Option.bind_some, Sum.elim_inl]
      have := ih (r + 1) (by omega) (by omega)
      rw [Nat.pow_succ'] at this
      exact this
    · have e : r = i % 8 := by omega
      rw [if_neg (by simp <;> omega)]
      simp only [Option.bind_some, Sum.elim_inr]
      rw [e]

/-- One more bit is set. -/
theorem l21_1_spec (l : List Bool) (hl : l.length ≤ 1000000) : ∀ (k i : Nat) (out : List Int), i ≤ l.length → i < k → IsB out → out.length = (l.length + 7) / 8 → valB out = 2 ^ i * nb (l.drop i) →
    ∃ o2 : List Int, loopN g21_1 o21_1 b21_1 k (l, (i : Int) - 1, out, ()) = some (.inl (o2, ())) ∧ IsB o2 ∧ o2.length = (l.length + 7) / 8 ∧ valB o2 = nb l := by
  intro k
  induction k with
  | zero => intro i out _ h; omega
  | succ k ih =>
    intro i out hi hk hb hol hv
    rw [loopN_succ]
    generalize hL : loopN g21_1 o21_1 b21_1 k = L at ih ⊢
    unfold b21_1
    simp only [if_true]
    cases i with
    | zero =>
      rw [if_neg (by simp)]
      simp only [Option.bind_some, Sum.elim_inr]
      refine ⟨out, rfl, hb, hol, ?_⟩
      simpa using hv
    | succ i =>
      have e0 : (((i + 1 : Nat) : Int) - 1) = (i : Int) := by omega
      rw [e0, if_pos (by simp), if_pos (by omega), if_pos (by omega)]
      simp only [Int.toNat_natCast]
      rcases (Bool.eq_false_or_eq_true (l.getD i false)).symm with hbit | hbit
      · rw [if_neg (by rw [hbit]; simp)]
        simp only [Option.bind_some, Sum.elim_inl]
        rw [wrap_i64 (by omega)]
        have := ih i out (by omega) (by omega) hb hol (by
          rw [hv, drop_getD false (by omega : i < l.length), hbit]
          simp only [nb, Bool.toNat_false, Nat.zero_add]
          rw [Nat.pow_succ, Nat.mul_assoc])
        exact this
      · rw [if_pos hbit]
        rw [show l21_2 = loopN g21_2 o21_2 b21_2 18446744073709551616 from rfl]
        have h2 := l21_2_spec l i out (by omega) 18446744073709551616 0 (by omega) (by omega)
        have h2' : loopN g21_2 o21_2 b21_2 18446744073709551616 (l, (i : Int), 1, 0, out, ()) = _ := h2
        rw [h2']
        simp only [Option.bind_some, Sum.elim_inl]
        have hd : IntKind.wrap IntKind.i64 (Int.tdiv (i : Int) 8) = ((i / 8 : Nat) : Int) := by
          rw [Int.tdiv_eq_ediv_of_nonneg (by omega), wrap_i64 (by omega)]; omega
        have hp : (2 : Nat) ^ (i % 8) ≤ 128 := by
          have : (2 : Nat) ^ (i % 8) ≤ 2 ^ 7 := Nat.pow_le_pow_right (by omega) (by omega)
          simpa using this
        have h8 : i / 8 < out.length := by omega
        rw [hd, if_pos (by omega), if_pos (by omega), if_pos (by omega), if_pos (by omega)]
        simp only [Int.toNat_natCast, Nat.zero_add, List.length_set, if_true, wrap_u8]
        have hg := hb.get (i / 8)
        have hgv := valB_get (j := i / 8) hb
        generalize hM : nb (l.drop (i + 1)) = M at hv
        have e256 : (2 : Nat) ^ i = 256 ^ (i / 8) * 2 ^ (i % 8) := by
          rw [pow256, ← Nat.pow_add]; congr 1; omega
        have hgm : (out.getD (i / 8) 0).toNat = 2 ^ (i % 8) * ((2 * M) % 2 ^ (8 - i % 8)) := by
          rw [hgv, hv, Nat.pow_succ, e256, Nat.mul_assoc, Nat.mul_assoc, Nat.mul_div_cancel_left _ (Nat.pow_pos (by omega)), ← Nat.mul_mod_mul_left, ← Nat.pow_add, show i % 8 + (8 - i % 8) = 8 by omega]
        have hdv : 2 ^ (8 - i % 8) = 2 * 2 ^ (7 - i % 8) := by rw [← Nat.pow_succ']; congr 1; omega
        have hev : (2 * M) % 2 ^ (8 - i % 8) + 2 ≤ 2 ^ (8 - i % 8) := by
          rw [hdv, Nat.mul_mod_mul_left]
          have := Nat.mod_lt M (Nat.two_pow_pos (7 - i % 8))
          omega
        have hsum : (out.getD (i / 8) 0).toNat + 2 ^ (i % 8) < 256 := by
          rw [hgm]
          have h3 : 2 ^ (i % 8) * ((2 * M) % 2 ^ (8 - i % 8) + 2) ≤ 2 ^ (i % 8) * 2 ^ (8 - i % 8) := Nat.mul_le_mul (Nat.le_refl _) hev
          rw [← Nat.pow_add, show i % 8 + (8 - i % 8) = 8 by omega, Nat.mul_add] at h3
          have hpos := Nat.two_pow_pos (i % 8)
          have : (2:Nat)^8 = 256 := rfl
          omega
        have ev : ((out.getD (i / 8) 0 + ((2 ^ (i % 8) : Nat) : Int) % 256) % 256) = out.getD (i / 8) 0 + ((2 ^ (i % 8) : Nat) : Int) := by
          have hgen : ∀ (g : Int) (p : Nat), 0 ≤ g → p ≤ 128 → g.toNat + p < 256 → (g + (p : Int) % 256) % 256 = g + (p : Int) := fun g p h1 h2 h3 => by omega
          exact hgen _ _ hg.1 hp hsum
        rw [ev, wrap_i64 (by omega)]
        have hgen : ∀ (g : Int) (p : Nat), 0 ≤ g → g.toNat + p < 256 → (0 ≤ g + (p : Int) ∧ g + (p : Int) < 256) ∧ (g + (p : Int)).toNat = g.toNat + p := fun g p h1 h3 => by omega
        obtain ⟨hx0, hx⟩ := hgen _ _ hg.1 hsum
        refine ih i _ (by omega) (by omega) (hb.set hx0) (by simpa using hol) ?_
        have hs := valB_set (a := out) (j := i / 8) (v := out.getD (i / 8) 0 + ((2 ^ (i % 8) : Nat) : Int)) hb hx0.1 h8
        rw [hx, Nat.mul_add] at hs
        rw [drop_getD false (by omega : i < l.length), hbit]
        simp only [nb, Bool.toNat_true]
        rw [hM]
        rw [Nat.mul_add, Nat.mul_one, e256]
        rw [hv, Nat.pow_succ, e256] at hs
        have e5 : 256 ^ (i / 8) * 2 ^ (i % 8) * 2 * M = 256 ^ (i / 8) * 2 ^ (i % 8) * (2 * M) := by rw [Nat.mul_assoc (256 ^ (i / 8) * 2 ^ (i % 8))]
        omega

theorem f21_spec (l : List Bool) (hl : l.length ≤ 1000000) : ∃ B : List Int, f21 (l, ()) = some (B, ()) ∧ IsB B ∧ B.length = (l.length + 7) / 8 ∧ valB B = nb l := by
  have hd : IntKind.wrap IntKind.i64 (Int.tdiv (IntKind.wrap IntKind.i64 ((l.length : Int) + 7)) 8) = (((l.length + 7) / 8 : Nat) : Int) := by
    rw [wrap_i64 (n := (l.length : Int) + 7) (by omega), Int.tdiv_eq_ediv_of_nonneg (by omega), wrap_i64 (by omega)]; omega
  obtain ⟨B, h1, h2, h3, h4⟩ := l21_1_spec l hl 18446744073709551616 l.length (List.replicate ((l.length + 7) / 8) 0) (Nat.le_refl _) (by omega) (IsB.replicate _) (by simp) (by rw [valB_replicate]; simp [nb])
  refine ⟨B, ?_, h2, h3, h4⟩
  unfold f21
  simp only []
  rw [hd, if_pos (by omega), if_pos (by omega), if_pos (by omega)]
  simp only [Int.toNat_natCast, List.length_replicate, if_true]
  rw [wrap_i64 (by omega), show l21_1 = loopN g21_1 o21_1 b21_1 18446744073709551616 from rfl, h1]
  rfl

/-! ## The reference's Put -/
theorem tmod2 (v : Nat) : (Int.tmod (v : Int) 2 == 1) = decide (v % 2 = 1) := by
  rw [Int.tmod_eq_emod_of_nonneg (by omega)]
  rcases Nat.mod_two_eq_zero_or_one v with h | h
  · have : ((v : Int) % 2) = 0 := by omega
    rw [this, h]; rfl
  · have : ((v : Int) % 2) = 1 := by omega
    rw [this, h]; rfl
theorem tdiv2 {v : Nat} (h : v < 9223372036854775808) : IntKind.wrap IntKind.i64 (Int.tdiv (v : Int) 2) = ((v / 2 : Nat) : Int) := by
  rw [Int.tdiv_eq_ediv_of_nonneg (by omega), wrap_i64 (by omega)]; omega

end Go.Ev.Huff
namespace Go.Ev.Huff

/-! ## The bits of bytes -/
theorem l23_2_spec (b : List Int) (i : Int) : ∀ (k j n : Nat) (out : List Bool), j ≤ 8 → 8 < j + k → n < 256 → out.length + (8 - j) ≤ 100000 →
    loopN g23_2 o23_2 b23_2 k (b, i, (n : Int), (j : Int), out, ()) = some (.inl (b, i, out ++ bitsN n (8 - j), ())) := by
  intro k
  induction k with
  | zero => intro j n out h1 h2; omega
  | succ k ih =>
    intro j n out h1 h2 hn hl
    rw [loopN_succ]
    generalize hL : loopN g23_2 o23_2 b23_2 k = L at ih ⊢
    unfold b23_2
    simp only [if_true, List.drop_zero, List.take_length, one_of, List.length_cons, List.length_nil]
    rcases Nat.lt_or_ge j 8 with h | h
    · rw [if_pos (by simp <;> omega), if_pos (by omega), tdiv2 (by omega), wrap_i64 (by omega), tmod2]
      simp only [Option.bind_some, Sum.elim_inl]
      have := ih (j + 1) (n / 2) (out ++ [decide (n % 2 = 1)]) (by omega) (by omega) (by omega) (by simp; omega)
      rw [show 8 - j = (8 - (j + 1)) + 1 by omega]
      simp only [bitsN]
      simp only [List.append_assoc, List.singleton_append] at this
      exact this
    · have e : j = 8 := by omega
      subst e
      rw [if_neg (by simp)]
      simp only [Option.bind_some, Sum.elim_inr]
      simp [bitsN]

theorem l23_1_spec (b : List Int) (hb : IsB b) (hl : b.length ≤ 1000) : ∀ (k j : Nat) (out : List Bool), j ≤ b.length → b.length < j + k → out.length = 8 * j →
    ∃ out2 : List Bool, loopN g23_1 o23_1 b23_1 k (b, (j : Int), out, ()) = some (.inl (out2, ())) ∧ out2.length = 8 * b.length ∧ nb out2 = nb out + 2 ^ (8 * j) * valB (b.drop j) := by
  intro k
  induction k with
  | zero => intro j out h1 h2; omega
  | succ k ih =>
    intro j out h1 h2 ho
    rw [loopN_succ]
    generalize hL : loopN g23_1 o23_1 b23_1 k = L at ih ⊢
    unfold b23_1
    simp only [if_true, Int.toNat_natCast]
    rcases Nat.lt_or_ge j b.length with h | h
    · rw [if_pos (by simpa using h), if_pos (by omega), if_pos (by omega)]
      have hg := hb.get j
      obtain ⟨n, hn⟩ : ∃ n : Nat, b.getD j 0 = (n : Int) := ⟨(b.getD j 0).toNat, by omega⟩
      rw [hn] at hg
      rw [hn, wrap_i64 (by omega)]
      have g := l23_2_spec b (j : Int) 18446744073709551616 0 n out (by omega) (by omega) (by omega) (by omega)
      have g' : loopN g23_2 o23_2 b23_2 18446744073709551616 (b, (j : Int), (n : Int), 0, out, ()) = _ := g
      rw [show l23_2 = loopN g23_2 o23_2 b23_2 18446744073709551616 from rfl, g']
      simp only [Option.bind_some, Sum.elim_inl]
      rw [wrap_i64 (by omega)]
      obtain ⟨o2, q1, q2, q3⟩ := ih (j + 1) (out ++ bitsN n 8) (by omega) (by omega) (by simp [bitsN_length]; omega)
      refine ⟨o2, q1, q2, ?_⟩
      rw [q3, nb_append, nb_bitsN, ho, drop_getD 0 h, hn]
      simp only [valB, Int.toNat_natCast]
      rw [Nat.mod_eq_of_lt (by omega), show 8 * (j + 1) = 8 * j + 8 by omega, Nat.pow_add, show (2 : Nat) ^ 8 = 256 from rfl, Nat.mul_assoc, Nat.mul_add]
      omega
    · have e : j = b.length := by omega
      subst e
      rw [if_neg (by simp)]
      refine ⟨out, rfl, ho, ?_⟩
      simp [valB]

theorem f23_spec (b : List Int) (hb : IsB b) (hl : b.length ≤ 1000) : ∃ l : List Bool, f23 (b, ()) = some (l, ()) ∧ l.length = 8 * b.length ∧ nb l = valB b := by
  obtain ⟨o2, h1, h2, h3⟩ := l23_1_spec b hb hl 18446744073709551616 0 [] (by omega) (by omega) rfl
  refine ⟨o2, ?_, h2, by rw [h3]; simp [nb]⟩
  unfold f23
  have h1' : loopN g23_1 o23_1 b23_1 18446744073709551616 (b, 0, [], ()) = _ := h1
  rw [show l23_1 = loopN g23_1 o23_1 b23_1 18446744073709551616 from rfl, h1']
  simp only [Option.bind_some, Sum.elim_inl, if_true]

/-! ## Numbers of bits -/
theorem l38_spec (l : List Bool) (hl : l.length ≤ 24) : ∀ (k i : Nat), i ≤ l.length → i < k →
    loopN g38_1 o38_1 b38_1 k (l, ((nb (l.drop i) : Nat) : Int), (i : Int) - 1, ()) = some (.inl (((nb l : Nat) : Int), ())) := by
  intro k
  induction k with
  | zero => intro i h1 h2; omega
  | succ k ih =>
    intro i h1 h2
    rw [loopN_succ]
    generalize hL : loopN g38_1 o38_1 b38_1 k = L at ih ⊢
    unfold b38_1
    simp only []
    cases i with
    | zero => rw [if_neg (by simp)]; rfl
    | succ i =>
      have e0 : (((i + 1 : Nat) : Int) - 1) = (i : Int) := by omega
      rw [e0, if_pos (by simp), if_pos (by omega), if_pos (by omega)]
      simp only [Int.toNat_natCast]
      have hd := drop_getD false (by omega : i < l.length)
      have hlt := nb_lt (l.drop (i + 1))
      have hp : (2 : Nat) ^ (l.drop (i + 1)).length ≤ 16777216 := by
        have : (2 : Nat) ^ (l.drop (i + 1)).length ≤ 2 ^ 24 := Nat.pow_le_pow_right (by omega) (by simp; omega)
        simpa using this
      have hi := ih i (by omega) (by omega)
      rw [hd] at hi
      rcases (Bool.eq_false_or_eq_true (l.getD i false)).symm with hbit | hbit
      · rw [if_neg (by rw [hbit]; simp), wrap_i64 (n := 2 * ((nb (l.drop (i + 1)) : Nat) : Int)) (by omega), wrap_i64 (by omega)]
        simp only [Option.bind_some, Sum.elim_inl]
        rw [hbit] at hi
        simp only [nb, Bool.toNat_false, Nat.zero_add] at hi
        rw [show (2 * ((nb (l.drop (i + 1)) : Nat) : Int)) = ((2 * nb (l.drop (i + 1)) : Nat) : Int) by omega]
        exact hi
      · rw [if_pos hbit, wrap_i64 (n := 2 * ((nb (l.drop (i + 1)) : Nat) : Int)) (by omega), wrap_i64 (by omega), wrap_i64 (by omega)]
        simp only [Option.bind_some, Sum.elim_inl]
        rw [hbit] at hi
        simp only [nb, Bool.toNat_true] at hi
        rw [show (2 * ((nb (l.drop (i + 1)) : Nat) : Int) + 1) = ((1 + 2 * nb (l.drop (i + 1)) : Nat) : Int) by omega]
        exact hi

theorem f38_spec (l : List Bool) (hl : l.length ≤ 24) : f38 (l, ()) = some (((nb l : Nat) : Int), ()) := by
  unfold f38
  have h := l38_spec l hl 18446744073709551616 l.length (Nat.le_refl _) (by omega)
  rw [List.drop_length] at h
  have h' : loopN g38_1 o38_1 b38_1 18446744073709551616 (l, 0, (l.length : Int) - 1, ()) = _ := h
  simp only []
  rw [wrap_i64 (by omega), show l38_1 = loopN g38_1 o38_1 b38_1 18446744073709551616 from rfl, h']
  rfl

/-! ## A reader beside the reference's -/
structure SameR (b : List Int) (a w m : Nat) (l : List Bool) (at_ : Nat) : Prop where
  hm : m < 8
  hw : w < 2 ^ m
  ha : a ≤ b.length
  hb : IsB b
  hbl : b.length ≤ 500
  hl : l.length = 8 * b.length
  hat : at_ ≤ l.length
  left : l.length - at_ = m + 8 * (b.length - a)
  num : nb (l.drop at_) = RV b a w m

theorem f13_bad {n : Int} {b : List Int} {a w m : Int} (h : n < 0 ∨ n > 24) : f34 (n, b, a, w, m, ()) = some (0, 1, b, a, w, m, ()) := by
  unfold f34
  simp only []
  by_cases h1 : n < 0
  · rw [if_pos (by simpa using h1)]
  · rw [if_neg (by simpa using h1), if_pos (by simp; omega)]
theorem f20_bad {n : Int} {l : List Bool} {a : Int} (h : n < 0 ∨ n > 24) : f35 (n, l, a, ()) = some (0, 1, l, a, ()) := by
  unfold f35
  simp only []
  by_cases h1 : n < 0
  · rw [if_pos (by simpa using h1)]
  · rw [if_neg (by simpa using h1), if_pos (by simp; omega)]

/-- Bits: both tell the same. -/
theorem bits_same {b : List Int} {a w m : Nat} {l : List Bool} {t : Nat} (h : SameR b a w m l t) (n : Int) :
    ∃ (v e : Int) (a' w' m' t' : Nat), f34 (n, b, (a : Int), (w : Int), (m : Int), ()) = some (v, e, b, (a' : Int), (w' : Int), (m' : Int), ()) ∧ f35 (n, l, (t : Int), ()) = some (v, e, l, (t' : Int), ()) ∧ SameR b a' w' m' l t' := by
  by_cases hbad : n < 0 ∨ n > 24
  · exact ⟨0, 1, a, w, m, t, f13_bad hbad, f20_bad hbad, h⟩
  · obtain ⟨nn, rfl⟩ : ∃ nn : Nat, n = (nn : Int) := ⟨n.toNat, by omega⟩
    have hl := h.hl
    have hat := h.hat
    have hlf := h.left
    have hbl := h.hbl
    by_cases hmore : l.length - t < nn
    · refine ⟨0, 6, a, w, m, t, ?_, ?_, h⟩
      · unfold f34
        simp only []
        rw [if_neg (by simp), if_neg (by simp; omega), f26_eqn h.ha (by omega) (by have := h.hm; omega)]
        simp only [Option.bind_some]
        rw [if_pos (by rw [decide_eq_true_eq]; omega)]
      · unfold f35
        simp only []
        rw [if_neg (by simp), if_neg (by simp; omega), wrap_i64 (by omega), if_pos (by rw [decide_eq_true_eq]; omega)]
    · obtain ⟨a', w', m', h1, h2, h3, h4, h5, h6⟩ := f13_good (n := nn) h.hb (by omega) h.hm h.hw h.ha (by omega) (by omega)
      have hsl : nb (List.drop t (List.take (t + nn) l)) = RV b a w m % 2 ^ nn := by
        rw [List.drop_take, show t + nn - t = nn by omega, nb_take _ (by simp; omega), h.num]
      refine ⟨_, 0, a', w', m', t + nn, h1, ?_, ⟨h2, h3, h4, h.hb, h.hbl, hl, by omega, by omega, ?_⟩⟩
      · unfold f35
        simp only []
        rw [if_neg (by simp), if_neg (by simp; omega), wrap_i64 (n := (l.length : Int) - t) (by omega), if_neg (by rw [decide_eq_true_eq]; omega)]
        rw [wrap_i64 (n := (t : Int) + nn) (by omega), show ((t : Int) + nn - nn) = (t : Int) by omega, wrap_i64 (n := (t : Int)) (by omega), show ((t : Int) + nn) = ((t + nn : Nat) : Int) by omega]
        rw [if_pos (by omega), if_pos (by omega), if_pos (by omega), if_pos (by omega)]
        simp only [Int.toNat_natCast]
        rw [f38_spec _ (by simp; omega), hsl]
        rfl
      · rw [h6, ← h.num, ← nb_drop _ (by simp; omega), List.drop_drop]

end Go.Ev.Huff
