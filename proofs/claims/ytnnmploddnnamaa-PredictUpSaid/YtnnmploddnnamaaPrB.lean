/- Part of a proof about the given program: PrB. -/
import Derived.Test.YtnnmploddnnamaaPrA
import Derived.Test.YtnnmploddnnamaaRule
import Derived.Test.YtnnmploddnnamaaF
namespace Go.Ev.Pre
set_option maxRecDepth 100000

/-! ## Parms -/
def known (p : Int) : Bool := decide (p = 1) || decide (p = 2) || (decide (10 ≤ p) && decide (p ≤ 15))
def bitsOk (b : Int) : Bool := decide (b = 1) || decide (b = 2) || decide (b = 4) || decide (b = 8) || decide (b = 16)
def sizes (c w : Int) : Bool := decide (1 ≤ c) && decide (c ≤ 32) && decide (1 ≤ w) && decide (w ≤ 65536)
def chk (p c b w : Int) : Int := if sizes c w && known p && bitsOk b then (if p = 2 ∧ b ≠ 8 then 9 else 0) else 1

theorem b13_1_eqn (p c b w : Int) : b13_1 (p, c, b, w, ()) = some (.inl (sizes c w, p, c, b, w, ())) := by
  unfold b13_1 sizes
  simp only [decide_eq_true_eq, ge_iff_le]
  by_cases h1 : 1 ≤ c <;> by_cases h2 : c ≤ 32 <;> by_cases h3 : 1 ≤ w <;> simp [h1, h2, h3]
theorem b13_2_eqn (o : Bool) (p c b w : Int) : b13_2 (o, p, c, b, w, ()) = some (.inl (o && known p, p, c, b, w, ())) := by
  unfold b13_2 b13_3 b13_4 known
  simp only [decide_eq_true_eq, beq_iff_eq]
  by_cases h1 : p = 1
  · simp [h1]
  · by_cases h2 : p = 2
    · simp [h2]
    · by_cases h3 : p < 10
      · simp [h1, h2, h3, show ¬ 10 ≤ p by omega]
      · by_cases h4 : 15 < p
        · simp [h1, h2, h3, h4, show ¬ p ≤ 15 by omega]
        · simp [h1, h2, h3, h4, show 10 ≤ p by omega, show p ≤ 15 by omega]
theorem b13_5_eqn (o : Bool) (p c b w : Int) : b13_5 (o, b, p, c, b, w, ()) = some (.inl (o, bitsOk b, p, c, b, w, ())) := by
  unfold b13_5 bitsOk
  simp only [beq_iff_eq]
  by_cases h1 : b = 1 <;> by_cases h2 : b = 2 <;> by_cases h3 : b = 4 <;> by_cases h4 : b = 8 <;> simp [h1, h2, h3, h4] <;> rfl
theorem f13_eqn (p c b w : Int) : f13 (p, c, b, w, ()) = some (chk p c b w, ()) := by
  unfold f13 chk
  dsimp only
  rw [b13_1_eqn, Option.bind_some, Sum.elim_inl]
  dsimp only
  rw [b13_2_eqn, Option.bind_some, Sum.elim_inl]
  dsimp only
  rw [b13_5_eqn, Option.bind_some, Sum.elim_inl]
  dsimp only
  simp only [beq_iff_eq, bne_iff_ne, Bool.not_eq_true']
  cases h1 : bitsOk b <;> cases h2 : (sizes c w && known p) <;> simp
  by_cases h3 : p = 2 <;> by_cases h4 : b = 8 <;> simp [h3, h4]
theorem b14_1_eqn (p c b w : Int) : b14_1 (p, c, b, w, ()) = some (.inl (known p, p, c, b, w, ())) := by
  unfold b14_1 known
  simp only [decide_eq_true_eq, beq_iff_eq, ge_iff_le]
  by_cases h1 : p = 1 <;> by_cases h2 : p = 2 <;> by_cases h3 : 10 ≤ p <;> simp [h1, h2, h3]
theorem b14_2_eqn (o : Bool) (p c b w : Int) : b14_2 (o, p, c, b, w, ()) = some (.inl (o, bitsOk b, p, c, b, w, ())) := by
  unfold b14_2 bitsOk
  simp only [beq_iff_eq]
  by_cases h1 : b = 1 <;> by_cases h2 : b = 2 <;> by_cases h3 : b = 4 <;> by_cases h4 : b = 8 <;> simp [h1, h2, h3, h4] <;> rfl
theorem f14_eqn (p c b w : Int) : f14 (p, c, b, w, ()) = some (chk p c b w, ()) := by
  unfold f14 chk
  dsimp only
  rw [b14_1_eqn, Option.bind_some, Sum.elim_inl]
  dsimp only
  rw [b14_2_eqn, Option.bind_some, Sum.elim_inl]
  dsimp only
  simp only [beq_iff_eq, bne_iff_ne, Bool.not_eq_true', decide_eq_true_eq]
  unfold sizes
  cases h1 : known p <;> cases h2 : bitsOk b <;> simp
  by_cases h3 : 1 ≤ c
  · by_cases h4 : c ≤ 32
    · by_cases h5 : 1 ≤ w
      · by_cases h6 : w ≤ 65536
        · rw [if_neg (by omega), if_neg (by omega), if_neg (by omega), if_neg (by omega)]
          by_cases h7 : p = 2 <;> by_cases h8 : b = 8 <;> simp [h3, h4, h5, h6, h7, h8]
        · rw [if_neg (by omega), if_neg (by omega), if_neg (by omega), if_pos (by omega), if_neg (by omega)]
      · rw [if_neg (by omega), if_neg (by omega), if_pos (by omega), if_neg (by omega)]
    · rw [if_neg (by omega), if_pos (by omega), if_neg (by omega)]
  · rw [if_pos (by omega), if_neg (by omega)]

/-- The parms may be. -/
structure Ok (p c b w : Int) : Prop where
  p : p = 1 ∨ p = 2 ∨ (10 ≤ p ∧ p ≤ 15)
  c1 : 1 ≤ c
  c2 : c ≤ 32
  b : b = 1 ∨ b = 2 ∨ b = 4 ∨ b = 8 ∨ b = 16
  w1 : 1 ≤ w
  w2 : w ≤ 65536
theorem chk_ok {p c b w : Int} (h : chk p c b w ≠ 1) : Ok p c b w := by
  unfold chk at h
  split at h
  · rename_i h'
    simp only [sizes, known, bitsOk, Bool.and_eq_true, Bool.or_eq_true, decide_eq_true_eq] at h'
    refine ⟨?_, ?_, ?_, ?_, ?_, ?_⟩ <;> omega
  · exact absurd rfl h
theorem chk_zero {p c b w : Int} (h : chk p c b w = 0) : Ok p c b w ∧ (p = 2 → b = 8) := by
  refine ⟨chk_ok (by omega), ?_⟩
  unfold chk at h
  split at h
  · intro e
    split at h
    · cases h
    · omega
  · cases h
theorem ok_chk {p c b w : Int} (h : Ok p c b w) (h2 : p = 2 → b = 8) : chk p c b w = 0 := by
  obtain ⟨h1, h3, h4, h5, h6, h7⟩ := h
  unfold chk
  rw [if_pos, if_neg (by omega)]
  simp only [sizes, known, bitsOk, Bool.and_eq_true, Bool.or_eq_true, decide_eq_true_eq]
  omega
/-- Bytes of one row, and of one pixel. -/
def rowN (c b w : Int) : Nat := ((c * b * w + 7) / 8).toNat
def stepN (c b : Int) : Nat := ((c * b + 7) / 8).toNat
theorem mul_bounds {x y a b : Int} (hx : 1 ≤ x ∧ x ≤ a) (hy : 1 ≤ y ∧ y ≤ b) : 1 ≤ x * y ∧ x * y ≤ a * b := by
  constructor
  · have := Int.mul_le_mul hx.1 hy.1 (by omega) (by omega : (0 : Int) ≤ x); omega
  · exact Int.mul_le_mul hx.2 hy.2 (by omega) (by omega)
theorem Ok.cb {p c b w : Int} (h : Ok p c b w) : 1 ≤ c * b ∧ c * b ≤ 512 := by
  have := mul_bounds (x := c) (y := b) (a := 32) (b := 16) ⟨h.c1, h.c2⟩ (by have := h.b; omega)
  omega
theorem Ok.cbw {p c b w : Int} (h : Ok p c b w) : 1 ≤ c * b * w ∧ c * b * w ≤ 33554432 := by
  have := mul_bounds (x := c * b) (y := w) (a := 512) (b := 65536) h.cb ⟨h.w1, h.w2⟩
  omega
theorem Ok.step {p c b w : Int} (h : Ok p c b w) : 1 ≤ stepN c b ∧ stepN c b ≤ 64 := by
  have := h.cb
  unfold stepN
  omega
theorem Ok.row {p c b w : Int} (h : Ok p c b w) : 1 ≤ rowN c b w ∧ rowN c b w ≤ 4194304 := by
  have := h.cbw
  unfold rowN
  omega
theorem f19_eqn {n : Int} (h1 : 0 ≤ n) (h2 : n ≤ 1099511627776) : f19 (n, ()) = some ((((n + 7) / 8).toNat : Int), ()) := by
  unfold f19
  dsimp only
  rw [wrap_i64 (n := n + 7) (by omega), Int.tdiv_eq_ediv_of_nonneg (by omega), wrap_i64 (by omega)]
  congr 2
  omega
theorem f15_is {p c b w : Int} (h : Ok p c b w) (h2 : chk p c b w ≠ 1) : f15 (p, c, b, w, ()) = some ((rowN c b w : Int), ()) := by
  have h3 := h.cb
  have h4 := h.cbw
  unfold f15
  dsimp only
  rw [f13_eqn, Option.bind_some]
  simp only [beq_iff_eq]
  rw [if_neg h2, wrap_i64 (n := c * b) (by omega), wrap_i64 (n := c * b * w) (by omega), f19_eqn (by omega) (by omega)]
  rfl
theorem f15_no {p c b w : Int} (h2 : chk p c b w = 1) : f15 (p, c, b, w, ()) = some (0, ()) := by
  unfold f15
  dsimp only
  rw [f13_eqn, Option.bind_some]
  simp only [beq_iff_eq]
  rw [if_pos h2]
theorem f16_is {p c b w : Int} (h : Ok p c b w) (h2 : chk p c b w ≠ 1) : f16 (p, c, b, w, ()) = some ((rowN c b w : Int), ()) := by
  have h3 := h.cb
  have h4 := h.cbw
  unfold f16
  dsimp only
  rw [f14_eqn, Option.bind_some]
  simp only [beq_iff_eq]
  rw [if_neg h2, wrap_i64 (n := c * b) (by omega), wrap_i64 (n := c * b * w) (by omega), wrap_i64 (n := c * b * w + 7) (by omega), Int.tdiv_eq_ediv_of_nonneg (by omega), wrap_i64 (by omega)]
  unfold rowN
  congr 2
  omega
theorem f16_no {p c b w : Int} (h2 : chk p c b w = 1) : f16 (p, c, b, w, ()) = some (0, ()) := by
  unfold f16
  dsimp only
  rw [f14_eqn, Option.bind_some]
  simp only [beq_iff_eq]
  rw [if_pos h2]
theorem f23_is {p c b w : Int} (h : Ok p c b w) : f23 (p, c, b, w, ()) = some ((stepN c b : Int), ()) := by
  have h3 := h.cb
  unfold f23
  dsimp only
  rw [wrap_i64 (n := c * b) (by omega), wrap_i64 (n := c * b + 7) (by omega), Int.tdiv_eq_ediv_of_nonneg (by omega), wrap_i64 (by omega)]
  unfold stepN
  congr 2
  omega

/-! ## What is foretold -/
theorem f22_eqn {l : List Int} (h : IsB l) (i : Int) : f22 (l, i, ()) = some ((if i < 0 then 0 else l.getD i.toNat 0), ()) := by
  unfold f22
  dsimp only
  have hb := h.get i.toNat
  by_cases h1 : i < 0
  · rw [if_pos (decide_eq_true h1), if_pos h1]
  · rw [if_neg (fun h => h1 (of_decide_eq_true h)), if_neg h1]
    by_cases h2 : i ≥ (l.length : Int)
    · rw [if_pos (decide_eq_true h2), List.getD_eq_getElem?_getD, List.getElem?_eq_none (by omega)]; rfl
    · rw [if_neg (fun h => h2 (of_decide_eq_true h)), if_pos (by omega), if_pos (by omega), wrap_i64 (by omega)]
theorem f25_eqn {l : List Int} (h : IsB l) (i : Int) : f25 (l, i, ()) = some ((if i < 0 then 0 else l.getD i.toNat 0), ()) := by
  unfold f25
  dsimp only
  have hb := h.get i.toNat
  by_cases h1 : i < 0
  · rw [if_pos (decide_eq_true h1), if_pos h1]
  · rw [if_neg (fun h => h1 (of_decide_eq_true h)), if_neg h1]
    by_cases h2 : i ≥ (l.length : Int)
    · rw [if_pos (decide_eq_true h2), List.getD_eq_getElem?_getD, List.getElem?_eq_none (by omega)]; rfl
    · rw [if_neg (fun h => h2 (of_decide_eq_true h)), if_pos (by omega), if_pos (by omega), wrap_i64 (by omega)]
theorem back_int {l : List Int} {s k : Nat} : (if (k : Int) - (s : Int) < 0 then 0 else l.getD ((k : Int) - (s : Int)).toNat 0) = back l s k := by
  unfold back
  by_cases h : k < s
  · rw [if_pos (by omega), if_pos h]
  · rw [if_neg (by omega), if_neg h, show ((k : Int) - (s : Int)).toNat = k - s by omega]
theorem max_far {a b : Int} (ha : -1000 ≤ a ∧ a ≤ 1000) (hb : -1000 ≤ b ∧ b ≤ 1000) : max (IntKind.wrap .i64 (a - b)) (IntKind.wrap .i64 (b - a)) = far a b := by
  rw [wrap_i64 (by omega), wrap_i64 (by omega)]
  unfold far
  omega
theorem f28_eqn {a b : Int} (ha : -1000 ≤ a ∧ a ≤ 1000) (hb : -1000 ≤ b ∧ b ≤ 1000) : f28 (a, b, ()) = some (far a b, ()) := by
  unfold f28
  dsimp only
  rw [max_far ha hb]
theorem f29_eqn {a b : Int} (ha : -1000 ≤ a ∧ a ≤ 1000) (hb : -1000 ≤ b ∧ b ≤ 1000) : f29 (a, b, ()) = some (far a b, ()) := by
  unfold f29
  dsimp only
  rw [max_far ha hb]
theorem f21_eqn {t a b c : Int} (ha : 0 ≤ a ∧ a < 256) (hb : 0 ≤ b ∧ b < 256) (hc : 0 ≤ c ∧ c < 256) : f21 (t, a, b, c, ()) = some (tells t a b c, ()) := by
  unfold f21 tells
  dsimp only
  rw [wrap_i64 (n := a + b) (by omega), wrap_i64 (n := a + b - c) (by omega), Int.tdiv_eq_ediv_of_nonneg (by omega), wrap_i64 (n := (a + b) / 2) (by omega)]
  rw [f28_eqn (a := a + b - c) (b := a) (by omega) (by omega), f28_eqn (a := a + b - c) (b := b) (by omega) (by omega), f28_eqn (a := a + b - c) (b := c) (by omega) (by omega)]
  simp only [Option.bind_some, beq_iff_eq, decide_eq_true_eq]
  generalize far (a + b - c) a = x
  generalize far (a + b - c) b = y
  generalize far (a + b - c) c = z
  by_cases h4 : t = 4
  · subst h4
    simp only [if_true, show ¬ (4 : Int) = 1 by decide, show ¬ (4 : Int) = 2 by decide, show ¬ (4 : Int) = 3 by decide, if_false]
    by_cases h1 : x ≤ min y z
    · rw [if_pos h1, if_pos (by omega)]
    · rw [if_neg h1, if_neg (show ¬ (x ≤ y ∧ x ≤ z) by omega)]
      by_cases h2 : y > z
      · rw [if_pos h2, if_neg (by omega)]
      · rw [if_neg h2, if_pos (by omega)]
  · rw [if_neg h4]
    by_cases h2 : t = 2
    · subst h2; rfl
    · rw [if_neg h2]
      by_cases h3 : t = 3
      · subst h3; rfl
      · rw [if_neg h3]
        by_cases h1 : t = 1
        · rw [if_pos h1, if_pos h1]
        · rw [if_neg h1, if_neg h1, if_neg h2, if_neg h3, if_neg h4]
theorem f24_eqn {t a b c : Int} (ha : 0 ≤ a ∧ a < 256) (hb : 0 ≤ b ∧ b < 256) (hc : 0 ≤ c ∧ c < 256) : f24 (t, a, b, c, ()) = some (tells t a b c, ()) := by
  unfold f24 tells
  dsimp only
  rw [wrap_i64 (n := a + b) (by omega), wrap_i64 (n := a + b - c) (by omega), Int.tdiv_eq_ediv_of_nonneg (by omega), wrap_i64 (n := (a + b) / 2) (by omega)]
  rw [f29_eqn (a := a + b - c) (b := a) (by omega) (by omega), f29_eqn (a := a + b - c) (b := b) (by omega) (by omega), f29_eqn (a := a + b - c) (b := c) (by omega) (by omega)]
  simp only [Option.bind_some, beq_iff_eq, decide_eq_true_eq]
  generalize far (a + b - c) a = x
  generalize far (a + b - c) b = y
  generalize far (a + b - c) c = z
  by_cases h1 : t = 1
  · simp only [if_pos h1]
  by_cases h2 : t = 2
  · simp only [if_neg h1, if_pos h2]
  by_cases h3 : t = 3
  · simp only [if_neg h1, if_neg h2, if_pos h3]
  by_cases h4 : t = 4
  · simp only [if_neg h1, if_neg h2, if_neg h3, if_pos h4]
    by_cases c1 : x ≤ y
    · by_cases c2 : x ≤ z
      · simp only [if_pos c1, if_pos c2, if_pos (And.intro c1 c2)]
      · simp only [if_pos c1, if_neg c2, if_neg (fun h : x ≤ y ∧ x ≤ z => c2 h.2)]
        by_cases c3 : y ≤ z
        · simp only [if_pos c3]
        · simp only [if_neg c3]
    · simp only [if_neg c1, if_neg (fun h : x ≤ y ∧ x ≤ z => c1 h.1)]
      by_cases c3 : y ≤ z
      · simp only [if_pos c3]
      · simp only [if_neg c3]
  · simp only [if_neg h1, if_neg h2, if_neg h3, if_neg h4]
theorem tells_range {t a b c : Int} (ha : 0 ≤ a ∧ a < 256) (hb : 0 ≤ b ∧ b < 256) (hc : 0 ≤ c ∧ c < 256) : 0 ≤ tells t a b c ∧ tells t a b c < 256 := by
  unfold tells
  repeat' split
  all_goals omega
theorem back_range {l : List Int} (h : IsB l) (s k : Nat) : 0 ≤ back l s k ∧ back l s k < 256 := by
  unfold back
  split
  · omega
  · exact h.get _
end Go.Ev.Pre
