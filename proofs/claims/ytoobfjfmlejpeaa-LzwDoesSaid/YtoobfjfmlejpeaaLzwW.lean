/- Part of a proof about the given program: LzwW. -/
import Derived.Test.YtoobfjfmlejpeaaBig
import Derived.Test.YtoobfjfmlejpeaaF
namespace Go.Ev.Lzw

/-! ## The writer -/
structure Wr (w m : Nat) (bs : List Int) (L N : Nat) : Prop where
  hm : m < 8
  hw : w < 2 ^ m
  hb : IsB bs
  len : L = 8 * bs.length + m
  num : N = be bs * 2 ^ m + w

/-- One byte goes out. -/
theorem byte_out {bs : List Int} {w M : Nat} (h8 : 8 ≤ M) : be (bs ++ [((w / 2 ^ (M - 8) % 256 : Nat) : Int)]) * 2 ^ (M - 8) + w % 2 ^ (M - 8) = be bs * 2 ^ M + w % 2 ^ M := by
  rw [be_append]
  simp only [be, List.length_cons, List.length_nil, Int.toNat_natCast, Nat.pow_zero, Nat.mul_one, Nat.add_zero, Nat.zero_add, Nat.pow_one]
  have e : (2 : Nat) ^ M = 2 ^ (M - 8) * 256 := by
    rw [show (256 : Nat) = 2 ^ 8 from rfl, ← Nat.pow_add]; congr 1; omega
  rw [e, Nat.mod_mul, Nat.add_mul]
  have e2 : be bs * 256 * 2 ^ (M - 8) = be bs * (2 ^ (M - 8) * 256) := by rw [Nat.mul_assoc, Nat.mul_comm 256]
  rw [e2, Nat.mul_comm (w / 2 ^ (M - 8) % 256)]
  omega

theorem fdivp (v n : Nat) : Int.fdiv (v : Int) (2 ^ n) = ((v / 2 ^ n : Nat) : Int) := fdiv_pow v n

theorem l13b_spec (w : Nat) : ∀ (k M : Nat) (bs : List Int), M < 8 * k → M ≤ 60 → IsB bs → bs.length + M ≤ 1000000000 →
    ∃ bs' : List Int, loopN g13_b_1 o13_b_1 b13_b_1 k ((w : Int), (M : Int), bs, ()) = some (.inl ((w : Int), ((M % 8 : Nat) : Int), bs', ())) ∧ IsB bs' ∧ 8 * bs'.length + M % 8 = 8 * bs.length + M ∧
      be bs' * 2 ^ (M % 8) + w % 2 ^ (M % 8) = be bs * 2 ^ M + w % 2 ^ M := by
  intro k
  induction k with
  | zero => intro M bs h; omega
  | succ k ih =>
    intro M bs hk hM hb hl
    rw [loopN_succ]
    generalize hL : loopN g13_b_1 o13_b_1 b13_b_1 k = L at ih ⊢
    unfold b13_b_1
    simp only [if_true, List.drop_zero, List.take_length, one_of, List.length_cons, List.length_nil]
    rcases Nat.lt_or_ge M 8 with h8 | h8
    · rw [if_neg (by simp; omega)]
      rw [Nat.mod_eq_of_lt h8]
      exact ⟨bs, rfl, hb, rfl, rfl⟩
    · rw [if_pos (by simp; omega), wrap_i64 (n := (M : Int) - 8) (by omega), if_neg (by omega), if_pos (by omega)]
      simp only [Option.bind_some, Sum.elim_inl]
      have e : ((M : Int) - 8) = ((M - 8 : Nat) : Int) := by omega
      rw [e, min64 (by omega), fdivp, wrap_u8]
      have e2 : (((w / 2 ^ (M - 8) : Nat) : Int) % 256) = ((w / 2 ^ (M - 8) % 256 : Nat) : Int) := by omega
      rw [e2]
      obtain ⟨bs', h1, h2, h3, h4⟩ := ih (M - 8) (bs ++ [((w / 2 ^ (M - 8) % 256 : Nat) : Int)]) (by omega) (by omega) (hb.append (IsB.one (by omega))) (by simp; omega)
      rw [show (M - 8) % 8 = M % 8 by omega] at h1 h3 h4
      exact ⟨bs', h1, h2, by rw [h3]; simp; omega, by rw [h4, byte_out h8]⟩

theorem put_b {v n w m L N : Nat} {bs : List Int} (h : Wr w m bs L N) (hn : n ≤ 16) (hv : v < 2 ^ n) (hL : L ≤ 100000000) :
    ∃ (w' m' : Nat) (bs' : List Int), f13_b ((v : Int), (n : Int), (w : Int), (m : Int), bs, ()) = some ((w' : Int), (m' : Int), bs', ()) ∧ Wr w' m' bs' (L + n) (N * 2 ^ n + v) := by
  obtain ⟨hm, hw, hb, hlen, hnum⟩ := h
  have hpm : (2 : Nat) ^ m ≤ 128 := by
    have : (2 : Nat) ^ m ≤ 2 ^ 7 := Nat.pow_le_pow_right (by omega) (by omega)
    simpa using this
  have hpn : (2 : Nat) ^ n ≤ 65536 := by
    have : (2 : Nat) ^ n ≤ 2 ^ 16 := Nat.pow_le_pow_right (by omega) (by omega)
    simpa using this
  have hwn : w * 2 ^ n ≤ 128 * 65536 := Nat.mul_le_mul (by omega) hpn
  have hX : w * 2 ^ n + v < 2 ^ (m + n) := by
    rw [Nat.pow_add]
    have : (w + 1) * 2 ^ n ≤ 2 ^ m * 2 ^ n := Nat.mul_le_mul (by omega) (Nat.le_refl _)
    rw [Nat.add_mul] at this
    omega
  obtain ⟨bs', h1, h2, h3, h4⟩ := l13b_spec (w * 2 ^ n + v) 18446744073709551616 (m + n) bs (by omega) (by omega) hb (by omega)
  refine ⟨(w * 2 ^ n + v) % 2 ^ ((m + n) % 8), (m + n) % 8, bs', ?_, ⟨by omega, Nat.mod_lt _ (Nat.two_pow_pos _), h2, by omega, ?_⟩⟩
  · unfold f13_b
    simp only [if_true]
    rw [if_neg (by omega), min64 (by omega)]
    have e1 : IntKind.wrap IntKind.i64 ((w : Int) * 2 ^ n) = ((w * 2 ^ n : Nat) : Int) := by
      rw [show ((w : Int) * 2 ^ n) = ((w * 2 ^ n : Nat) : Int) by simp]
      exact wrap_i64 (by omega)
    rw [e1, or64 (by omega) (by omega), shl_or hv, wrap_i64 (n := ((w * 2 ^ n + v : Nat) : Int)) (by omega), show ((m : Int) + (n : Int)) = ((m + n : Nat) : Int) by simp, wrap_i64 (by omega)]
    rw [show l13_b_1 = loopN g13_b_1 o13_b_1 b13_b_1 18446744073709551616 from rfl, h1]
    simp only [Option.bind_some, Sum.elim_inl]
    rw [if_neg (by omega), min64 (by omega), mask64 (by omega) (by omega)]
    have hlt := Nat.mod_lt (w * 2 ^ n + v) (Nat.two_pow_pos ((m + n) % 8))
    have hp8 : (2 : Nat) ^ ((m + n) % 8) ≤ 128 := by
      have : (2 : Nat) ^ ((m + n) % 8) ≤ 2 ^ 7 := Nat.pow_le_pow_right (by omega) (by omega)
      simpa using this
    rw [wrap_i64 (by omega)]
  · rw [h4, Nat.mod_eq_of_lt hX, hnum, Nat.pow_add, Nat.add_mul, Nat.mul_assoc]
    omega

theorem l13_eq : ∀ (k : Nat) (x : g13_1.D), loopN g13_1 o13_1 b13_1 k x = loopN g13_b_1 o13_b_1 b13_b_1 k x := by
  intro k
  induction k with
  | zero => intro x; rfl
  | succ k ih =>
    intro x
    rw [loopN_succ, loopN_succ, show (loopN g13_1 o13_1 b13_1 k) = (loopN g13_b_1 o13_b_1 b13_b_1 k) from funext ih]
    rfl

theorem put_n {v n : Nat} (hn : n ≤ 16) (hv : v < 2 ^ n) : ∃ (w' m' : Nat) (bs' : List Int), f13 ((v : Int), (n : Int), 0, 0, ()) = some ((w' : Int), (m' : Int), bs', ()) ∧ Wr w' m' bs' n v := by
  obtain ⟨w', m', bs', h1, h2⟩ := put_b (v := v) (n := n) (w := 0) (m := 0) (bs := []) (L := 0) (N := 0) ⟨by omega, by simp, IsB.nil, rfl, by simp [be]⟩ hn hv (by omega)
  refine ⟨w', m', bs', ?_, by simpa using h2⟩
  rw [← h1]
  unfold f13 f13_b
  simp only [if_true]
  rw [show l13_1 = l13_b_1 from funext (l13_eq _)]
  rfl

theorem done_b {w m L N : Nat} {bs : List Int} (h : Wr w m bs L N) (hL : L ≤ 100000000) :
    ∃ (w' m' : Int) (bs' : List Int), f15 ((w : Int), (m : Int), bs, ()) = some (w', m', bs', ()) ∧ IsB bs' ∧ bs'.length = (L + 7) / 8 ∧ be bs' = N * 2 ^ ((8 - L % 8) % 8) := by
  have hm := h.hm
  have hlen := h.len
  unfold f15
  simp only [if_true]
  by_cases h0 : m = 0
  · rw [if_neg (by simp; omega)]
    refine ⟨_, _, bs, rfl, h.hb, by omega, ?_⟩
    have hw0 : w = 0 := by have := h.hw; rw [h0] at this; simpa using this
    rw [h.num, hw0, h0, show (8 - L % 8) % 8 = 0 by omega]
    simp
  · rw [if_pos (by simp; omega), wrap_i64 (by omega), show ((8 : Int) - (m : Int)) = ((8 - m : Nat) : Int) by omega]
    obtain ⟨w', m', bs', h1, h2⟩ := put_b (v := 0) (n := 8 - m) h (by omega) (Nat.two_pow_pos _) hL
    have h1' : f13_b (0, ((8 - m : Nat) : Int), (w : Int), (m : Int), bs, ()) = _ := h1
    rw [h1']
    have hm2 := h2.hm
    have hl2 := h2.len
    have hm0 : m' = 0 := by omega
    have hw0 : w' = 0 := by have := h2.hw; rw [hm0] at this; simpa using this
    refine ⟨_, _, bs', rfl, h2.hb, by omega, ?_⟩
    have := h2.num
    rw [hm0, hw0] at this
    rw [show (8 - L % 8) % 8 = 8 - m by omega]
    simpa using this.symm

theorem size_eq (n : Nat) : f14 ((n : Int), ()) = some (((if n < 253 then 9 else if n < 765 then 10 else if n < 1789 then 11 else 12 : Nat) : Int), ()) := by
  unfold f14
  simp only [decide_eq_true_eq]
  by_cases h1 : n < 253
  · rw [if_pos (by omega), if_pos h1]; rfl
  · rw [if_neg (by omega), if_neg h1]
    by_cases h2 : n < 765
    · rw [if_pos (by omega), if_pos h2]; rfl
    · rw [if_neg (by omega), if_neg h2]
      by_cases h3 : n < 1789
      · rw [if_pos (by omega), if_pos h3]; rfl
      · rw [if_neg (by omega), if_neg h3]; rfl
def sz (n : Nat) : Nat := if n < 253 then 9 else if n < 765 then 10 else if n < 1789 then 11 else 12
theorem sz_le (n : Nat) : 9 ≤ sz n ∧ sz n ≤ 12 := by
  unfold sz
  constructor <;> (repeat' split) <;> omega
theorem f14_eqn (n : Nat) : f14 ((n : Int), ()) = some ((sz n : Int), ()) := size_eq n
theorem f14_max (n : Nat) (h : n ≤ 100000000) : f14 ((Max.max (IntKind.wrap .i64 ((n : Int) - 1)) 0), ()) = some ((sz (n - 1) : Int), ()) := by
  rw [wrap_i64 (by omega), show Max.max ((n : Int) - 1) 0 = ((n - 1 : Nat) : Int) by omega]
  exact f14_eqn _
/-- A number that is told of rows fits. -/
theorem sz_fit {v r : Nat} (h : v ≤ 258 + r) (hr : r ≤ 3837) : v < 2 ^ sz r := by
  unfold sz
  split
  · have : (2:Nat)^9 = 512 := rfl
    omega
  · split
    · have : (2:Nat)^10 = 1024 := rfl
      omega
    · split
      · have : (2:Nat)^11 = 2048 := rfl
        omega
      · have : (2:Nat)^12 = 4096 := rfl
        omega
end Go.Ev.Lzw
