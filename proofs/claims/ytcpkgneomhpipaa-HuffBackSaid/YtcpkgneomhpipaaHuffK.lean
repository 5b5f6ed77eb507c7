/- Part of a proof about the given program: HuffK. -/
import Derived.Test.YtcpkgneomhpipaaHuffPuts
namespace Go.Ev.Huff

/-! # No word begins another -/
theorem kraft (l : List Int) : ∀ n, n + 1 ≤ 15 → (base l (n + 1) + cnt l (n + 1)) * 2 ^ (15 - (n + 1)) = shN l (n + 1)
  | 0, _ => by
    have e : base l 1 = 0 := rfl
    rw [shN, shN, e]
    simp only [Nat.zero_add]
  | n + 1, h => by
    have ih := kraft l n (by omega)
    have hp : (2 : Nat) ^ (15 - (n + 1)) = 2 * 2 ^ (15 - (n + 1 + 1)) := by rw [← Nat.pow_succ']; congr 1; omega
    rw [shN, ← ih, hp, base_step (by omega), Nat.add_mul, Nat.mul_comm 2 (base l (n + 1) + cnt l (n + 1)), Nat.mul_assoc]
theorem shN_mono (l : List Int) (n : Nat) : ∀ d, shN l n ≤ shN l (n + d)
  | 0 => Nat.le_refl _
  | d + 1 => Nat.le_trans (shN_mono l n d) (by rw [show n + (d + 1) = n + d + 1 from rfl, shN]; exact Nat.le_add_right _ _)
theorem code_top {l : List Int} (he : err l = 0) {n : Nat} (h1 : 1 ≤ n) (h2 : n ≤ 15) : base l n + cnt l n ≤ 2 ^ n := by
  obtain ⟨hl, hk, hs⟩ := err_ok he
  obtain ⟨m, rfl⟩ : ∃ m, n = m + 1 := ⟨n - 1, by omega⟩
  have h3 := kraft l m h2
  have h4 := shN_mono l (m + 1) (15 - (m + 1))
  rw [show m + 1 + (15 - (m + 1)) = 15 by omega, shN_shr hk] at h4
  have h5 : (base l (m + 1) + cnt l (m + 1)) * 2 ^ (15 - (m + 1)) ≤ 2 ^ (m + 1) * 2 ^ (15 - (m + 1)) := by
    rw [h3, ← Nat.pow_add, show m + 1 + (15 - (m + 1)) = 15 by omega]
    exact Nat.le_trans h4 hs
  exact Nat.le_of_mul_le_mul_right h5 (Nat.two_pow_pos _)
theorem base_far (l : List Int) {n : Nat} (h1 : 1 ≤ n) : ∀ d, 2 ^ (d + 1) * (base l n + cnt l n) ≤ base l (n + (d + 1))
  | 0 => by rw [base_step h1]; exact Nat.le_refl _
  | d + 1 => by
    have ih := base_far l h1 d
    rw [show n + (d + 1 + 1) = n + (d + 1) + 1 from rfl, base_step (by omega), Nat.pow_succ 2 (d + 1), Nat.mul_comm (2 ^ (d + 1)) 2, Nat.mul_assoc]
    omega
theorem code_nat {l : List Int} {s n : Nat} (hn : 1 ≤ n) (hs : l.getD s 0 = (n : Int)) : (code l s).toNat = base l n + cnt (l.take s) n := by
  rw [code_of hn hs, Int.toNat_natCast]
theorem cnt_in {l : List Int} {s n : Nat} (h : s < l.length) (hs : l.getD s 0 = (n : Int)) : cnt (l.take s) n < cnt l n := (sgn_at h hs).1
/-- What a word begins with isn't a word. -/
theorem look_short {l : List Int} {s n : Nat} (hn : l.getD s 0 = (n : Int)) {j : Nat} (hj : 1 ≤ j) (hjn : j < n) : look l j ((code l s).toNat / 2 ^ (n - j)) = none := by
  have hc := code_nat (by omega) hn
  have hf := base_far l hj (n - j - 1)
  rw [show n - j - 1 + 1 = n - j by omega, show j + (n - j) = n by omega] at hf
  have h2 : base l j + cnt l j ≤ (code l s).toNat / 2 ^ (n - j) := by
    rw [Nat.le_div_iff_mul_le (Nat.two_pow_pos _), Nat.mul_comm, hc]
    omega
  unfold look
  rw [if_neg (by omega)]
theorem look_full {l : List Int} (he : err l = 0) {s n : Nat} (h : s < l.length) (hn : l.getD s 0 = (n : Int)) (h1 : 1 ≤ n) : look l n (code l s).toNat = some (s : Int) := by
  obtain ⟨hl, hk, _⟩ := err_ok he
  have h0 := code_lim hl hk s
  exact look_at h1 h hn (by omega)
theorem code_lt {l : List Int} (he : err l = 0) {s n : Nat} (h : s < l.length) (hn : l.getD s 0 = (n : Int)) (h1 : 1 ≤ n) (h15 : n ≤ 15) : (code l s).toNat < 2 ^ n := by
  have h2 := code_top he h1 h15
  have h3 := cnt_in h hn
  rw [code_nat h1 hn]
  omega

/-! # What was put is read -/
theorem nb_get : ∀ (l : List Bool) (p : Nat), nb l / 2 ^ p % 2 = (l.getD p false).toNat
  | [], p => by rw [nb, Nat.zero_div]; rfl
  | x :: l, 0 => by
    rw [nb, Nat.pow_zero, Nat.div_one, List.getD_cons_zero]
    cases x <;> simp <;> omega
  | x :: l, p + 1 => by
    rw [nb, Nat.pow_succ', ← Nat.div_div_eq_div_mul, show (x.toNat + 2 * nb l) / 2 = nb l by cases x <;> simp <;> omega, nb_get l p, List.getD_cons_succ]
theorem wb_get : ∀ (n c k : Nat), k < n → (wb c n).getD k false = decide (c / 2 ^ (n - (k + 1)) % 2 = 1)
  | 0, c, k, h => by omega
  | n + 1, c, k, h => by
    rw [wb, List.getD_eq_getElem?_getD]
    rcases Nat.lt_or_ge k n with hk | hk
    · rw [List.getElem?_append_left (by rw [wb_length]; exact hk), ← List.getD_eq_getElem?_getD, wb_get n (c / 2) k hk, Nat.div_div_eq_div_mul, ← Nat.pow_succ', show (n - (k + 1)).succ = n + 1 - (k + 1) by omega]
    · have e : k = n := by omega
      subst e
      rw [List.getElem?_append_right (by rw [wb_length]; omega), wb_length, Nat.sub_self, Nat.sub_self]
      rw [Nat.pow_zero, Nat.div_one]
      rfl
theorem readR_word {l : List Int} (he : err l = 0) {s n : Nat} (h : s < l.length) (hn : l.getD s 0 = (n : Int)) (h1 : 1 ≤ n) (h15 : n ≤ 15) {b : List Int} {pre post : List Bool} (hv : valB b = nb (pre ++ (wb (code l s).toNat n ++ post))) (hp : pre.length + n ≤ 8 * b.length) : ∀ (r k : Nat), k + r = 15 → k < n →
    readR l b r (k + 1) (pre.length + k) ((code l s).toNat / 2 ^ (n - k)) = (some ((s : Int), 0), pre.length + n) := by
  intro r
  induction r with
  | zero => intro k h2 h3; omega
  | succ r ih =>
    intro k h2 h3
    have hbit : bitsAt b (pre.length + k) 1 = (code l s).toNat / 2 ^ (n - (k + 1)) % 2 := by
      unfold bitsAt
      rw [hv, Nat.pow_one, nb_get, List.getD_eq_getElem?_getD, List.getElem?_append_right (by omega), show pre.length + k - pre.length = k by omega, List.getElem?_append_left (by rw [wb_length]; exact h3), ← List.getD_eq_getElem?_getD, wb_get n _ k h3, decide_toNat]
    have hval : 2 * ((code l s).toNat / 2 ^ (n - k)) + bitsAt b (pre.length + k) 1 = (code l s).toNat / 2 ^ (n - (k + 1)) := by
      rw [hbit, show n - k = (n - (k + 1)) + 1 by omega, Nat.pow_succ, ← Nat.div_div_eq_div_mul]
      omega
    unfold readR
    rw [if_pos (by omega), hval]
    rcases Nat.lt_or_ge (k + 1) n with h4 | h4
    · rw [look_short hn (by omega) h4]
      exact ih (k + 1) (by omega) h4
    · have e : n = k + 1 := by omega
      subst e
      rw [Nat.sub_self, Nat.pow_zero, Nat.div_one, look_full he h hn h1]
      rfl
/-- The sign is read whose word comes. -/
theorem readH_word {l : List Int} (he : err l = 0) {s : Nat} (h : s < l.length) (hw : 0 < l.getD s 0) {b : List Int} {pre post : List Bool} (hv : valB b = nb (pre ++ (word l (s : Int) ++ post))) (hp : (pre ++ word l (s : Int)).length ≤ 8 * b.length) :
    readH l b pre.length = ((s : Int), 0, (pre ++ word l (s : Int)).length) := by
  obtain ⟨hl, hk, _⟩ := err_ok he
  have h0 := hk.get s
  have e1 : word l (s : Int) = wb (code l s).toNat (l.getD s 0).toNat := by
    unfold word
    rw [if_pos (by omega), Int.toNat_natCast]
  generalize hx : l.getD s 0 = x at hw h0 e1
  obtain ⟨n, rfl⟩ : ∃ n : Nat, x = (n : Int) := ⟨x.toNat, by omega⟩
  rw [Int.toNat_natCast] at e1
  rw [e1] at hv hp ⊢
  rw [List.length_append, wb_length] at hp ⊢
  have hr := readR_word he h hx (by omega) (by omega) hv hp 15 0 rfl (by omega)
  rw [Nat.sub_zero, Nat.div_eq_of_lt (code_lt he h hx (by omega) (by omega))] at hr
  have hr' : readR l b 15 1 pre.length 0 = _ := hr
  unfold readH
  rw [hr']
end Go.Ev.Huff
