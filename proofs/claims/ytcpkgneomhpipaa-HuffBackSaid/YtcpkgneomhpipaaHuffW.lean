/- Part of a proof about the given program: HuffW. -/
import Derived.Test.YtcpkgneomhpipaaHuffRAll
namespace Go.Ev.Huff

/-! ## Writer -/
theorem b10_more {w m : Nat} {bs : List Int} (hm : 8 ≤ m) (hm' : m ≤ 100) (hb : bs.length ≤ 100000) : b32_1 ((w : Int), (m : Int), bs, ()) = some (.inl (((w / 256 : Nat) : Int), ((m - 8 : Nat) : Int), bs ++ [((w % 256 : Nat) : Int)], ())) := by
  unfold b32_1
  simp only [List.drop_zero, List.take_length, List.length_append, wrap_u8, fdiv_256]
  rw [if_pos (by simp <;> omega), if_pos (by simp <;> omega), wrap_i64 (by omega)]
  simp only [if_true]
  congr 4
  omega
theorem b10_end {w m : Nat} {bs : List Int} (hm : m < 8) : b32_1 ((w : Int), (m : Int), bs, ()) = some (.inr (.inl ((w : Int), (m : Int), bs, ()))) := by
  unfold b32_1
  simp only [if_true]
  rw [if_neg (by simp <;> omega)]

def V (bs : List Int) (w : Nat) : Nat := valB bs + 256 ^ bs.length * w

theorem l32_spec : ∀ (k m w : Nat) (bs : List Int), m < 8 * k → m ≤ 31 → w < 2 ^ m → IsB bs → bs.length ≤ 90000 + (31 - m) →
    ∃ (w' m' : Nat) (bs' : List Int), loopN g32_1 o32_1 b32_1 k ((w : Int), (m : Int), bs, ()) = some (.inl ((w' : Int), (m' : Int), bs', ())) ∧ m' < 8 ∧ w' < 2 ^ m' ∧ IsB bs' ∧ 8 * bs'.length + m' = 8 * bs.length + m ∧ V bs' w' = V bs w := by
  intro k
  induction k with
  | zero => intro m w bs h; omega
  | succ k ih =>
    intro m w bs hk hm hw hb hl
    rw [loopN_succ]
    rcases Nat.lt_or_ge m 8 with h8 | h8
    · rw [b10_end h8]
      exact ⟨w, m, bs, rfl, h8, hw, hb, rfl, rfl⟩
    · rw [b10_more h8 (by omega) (by omega)]
      have hw' : w / 256 < 2 ^ (m - 8) := by
        rw [Nat.div_lt_iff_lt_mul (by omega), show (256 : Nat) = 2 ^ 8 by rfl, ← Nat.pow_add]
        rwa [show m - 8 + 8 = m by omega]
      obtain ⟨w', m', bs', h1, h2, h3, h4, h5, h6⟩ := ih (m - 8) (w / 256) (bs ++ [((w % 256 : Nat) : Int)]) (by omega) (by omega) hw' (hb.append (fun x hx => by rw [List.mem_singleton] at hx; rw [hx]; omega)) (by simp <;> omega)
      refine ⟨w', m', bs', h1, h2, h3, h4, by rw [h5]; simp; omega, ?_⟩
      rw [h6]
      unfold V
      rw [valB_append]
      simp only [valB, List.length_append, List.length_cons, List.length_nil, Nat.pow_succ, Nat.mul_zero, Nat.add_zero, Nat.zero_add]
      have e : w = w % 256 + 256 * (w / 256) := by omega
      have e2 : 256 ^ bs.length * w = 256 ^ bs.length * (w % 256) + 256 ^ bs.length * 256 * (w / 256) := by
        rw [Nat.mul_assoc, ← Nat.mul_add, ← e]
      simp only [Int.toNat_natCast]
      omega

/-- What Put does. -/
theorem f10_bad {v n : Int} {w m : Int} {bs : List Int} (h : n < 0 ∨ n > 24 ∨ v < 0) : f32 (v, n, w, m, bs, ()) = some (1, w, m, bs, ()) := by
  unfold f32
  simp only [if_true]
  by_cases h1 : n < 0
  · rw [if_pos (by simpa using h1)]
  · rw [if_neg (by simpa using h1)]
    by_cases h2 : n > 24
    · rw [if_pos (by simpa using h2)]
    · rw [if_neg (by simpa using h2), if_pos (by simp <;> omega)]

theorem f10_big {v n : Nat} {w m : Int} {bs : List Int} (hn : n ≤ 24) (h : 2 ^ n ≤ v) : f32 ((v : Int), (n : Int), w, m, bs, ()) = some (1, w, m, bs, ()) := by
  unfold f32
  simp only [if_true]
  rw [if_neg (by simp <;> omega), if_neg (by simp <;> omega), if_neg (by simp <;> omega), if_neg (by omega), if_pos]
  rw [minN (by omega), fdiv_pow]
  have : 0 < v / 2 ^ n := Nat.div_pos h (Nat.two_pow_pos n)
  simp only [bne_iff_ne, ne_eq]
  omega

theorem f10_good {v n w m : Nat} {bs : List Int} (hn : n ≤ 24) (hv : v < 2 ^ n) (hm : m < 8) (hw : w < 2 ^ m) (hb : IsB bs) (hl : bs.length ≤ 90000) :
    ∃ (w' m' : Nat) (bs' : List Int), f32 ((v : Int), (n : Int), (w : Int), (m : Int), bs, ()) = some (0, (w' : Int), (m' : Int), bs', ()) ∧ m' < 8 ∧ w' < 2 ^ m' ∧ IsB bs' ∧ 8 * bs'.length + m' = 8 * bs.length + m + n ∧ V bs' w' = V bs w + v * 2 ^ (8 * bs.length + m) := by
  have hpm : (2 : Nat) ^ m ≤ 128 := by
    have : (2 : Nat) ^ m ≤ 2 ^ 7 := Nat.pow_le_pow_right (by omega) (by omega)
    simpa using this
  have hpn : (2 : Nat) ^ n ≤ 16777216 := by
    have : (2 : Nat) ^ n ≤ 2 ^ 24 := Nat.pow_le_pow_right (by omega) (by omega)
    simpa using this
  have hvm : v * 2 ^ m ≤ 16777216 * 128 := Nat.mul_le_mul (by omega) hpm
  have hwv : w + v * 2 ^ m < 2 ^ (m + n) := by
    have h1 : (v + 1) * 2 ^ m ≤ 2 ^ n * 2 ^ m := Nat.mul_le_mul (by omega) (Nat.le_refl _)
    rw [Nat.pow_add, Nat.mul_comm (2 ^ m)]
    rw [Nat.succ_mul] at h1
    omega
  obtain ⟨w', m', bs', h1, h2, h3, h4, h5, h6⟩ := l32_spec 18446744073709551616 (m + n) (w + v * 2 ^ m) bs (by omega) (by omega) hwv hb (by omega)
  refine ⟨w', m', bs', ?_, h2, h3, h4, by omega, ?_⟩
  · unfold f32
    simp only [if_true]
    rw [if_neg (by simp <;> omega), if_neg (by simp <;> omega), if_neg (by simp <;> omega), if_neg (by omega), if_neg, if_neg (by omega)]
    · rw [minN (by omega)]
      have e1 : IntKind.wrap IntKind.i64 ((v : Int) * 2 ^ m) = ((v * 2 ^ m : Nat) : Int) := by
        rw [show ((v : Int) * 2 ^ m) = ((v * 2 ^ m : Nat) : Int) by simp]
        exact wrap_i64 (by omega)
      rw [e1, or64 (by omega) (by omega), or_split v hw, wrap_i64 (by omega), wrap_i64 (by omega)]
      rw [show ((m : Int) + (n : Int)) = ((m + n : Nat) : Int) by simp]
      rw [show l32_1 = loopN g32_1 o32_1 b32_1 18446744073709551616 from rfl, h1]
      rfl
    · rw [minN (by omega), fdiv_pow, Nat.div_eq_of_lt hv]
      simp
  · rw [h6]
    unfold V
    rw [Nat.mul_add, Nat.pow_add, ← pow256, Nat.mul_comm v (256 ^ bs.length * 2 ^ m), Nat.mul_assoc, Nat.mul_comm (2 ^ m) v]
    omega


theorem f20_eqn {w m : Nat} {bs : List Int} (h : bs.length ≤ 90000) : f20 ((w : Int), (m : Int), bs, ()) = some ((w : Int), (m : Int), bs, outB w m bs, ()) := by
  unfold f20
  simp only [List.drop_zero, List.take_length]
  rw [f33_eqn (by omega)]
  simp only [Option.bind_some, wrap_u8, if_true]
  unfold outB
  by_cases h0 : 0 < m
  · rw [if_pos (by simp <;> omega), if_pos (by simp <;> omega), if_pos h0]
    rfl
  · rw [if_neg (by simp <;> omega), if_neg h0]

theorem outB_spec {w m : Nat} {bs : List Int} (hm : m < 8) (hw : w < 2 ^ m) (hb : IsB bs) : IsB (outB w m bs) ∧ valB (outB w m bs) = V bs w ∧ (outB w m bs).length = (8 * bs.length + m + 7) / 8 := by
  unfold outB
  by_cases h0 : 0 < m
  · rw [if_pos h0]
    have hp : (2 : Nat) ^ m ≤ 128 := by
      have : (2 : Nat) ^ m ≤ 2 ^ 7 := Nat.pow_le_pow_right (by omega) (by omega)
      simpa using this
    have e : w % 256 = w := by omega
    rw [e]
    refine ⟨hb.append (fun x hx => by rw [List.mem_singleton] at hx; rw [hx]; omega), ?_, by simp; omega⟩
    rw [valB_append]; unfold V
    simp [valB]
  · rw [if_neg h0]
    have : m = 0 := by omega
    subst this
    have hw0 : w = 0 := by simpa using hw
    subst hw0
    exact ⟨hb, by unfold V; simp, by omega⟩

end Go.Ev.Huff
