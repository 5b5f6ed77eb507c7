/- Part of a proof about the given program: YrB. -/
import Derived.Test.YtaofodieeepobaaYrA
import Derived.Test.YtaofodieeepobaaBig
import Derived.Test.YtaofodieeepobaaZR
import Derived.KernelRfl
namespace Go.Ev.Zlib
theorem l96_spec (n : Nat) (hn : n ≤ 15) : ∀ (k i : Nat), n < i + k → i ≤ n → loopN g96_1 o96_1 b96_1 k ((n : Int), ((2 ^ i : Nat) : Int), (i : Int), ()) = some (.inl (((2 ^ n : Nat) : Int), ())) := by
  intro k
  induction k with
  | zero => intro i h1 h2; omega
  | succ k ih =>
    intro i h1 h2
    rw [loopN_succ]
    generalize hL : loopN g96_1 o96_1 b96_1 k = L at ih ⊢
    unfold b96_1
    simp only []
    rcases Nat.lt_or_ge i n with h | h
    · rw [if_pos (by rw [decide_eq_true_eq]; omega)]
      simp only [Option.bind_some, Sum.elim_inl]
      have hp : (2 : Nat) ^ i ≤ 32768 := by
        have : (2 : Nat) ^ i ≤ 2 ^ 15 := Nat.pow_le_pow_right (by omega) (by omega)
        simpa using this
      have e1 : IntKind.wrap IntKind.i64 (2 * ((2 ^ i : Nat) : Int)) = ((2 ^ (i + 1) : Nat) : Int) := by
        rw [Nat.pow_succ]
        generalize (2 : Nat) ^ i = p at hp
        rw [wrap_i64 (by omega)]; omega
      rw [e1, wrap_i64 (by omega), show ((i : Int) + 1) = ((i + 1 : Nat) : Int) by omega]
      exact ih (i + 1) (by omega) (by omega)
    · rw [if_neg (by rw [decide_eq_true_eq]; omega)]
      have : i = n := by omega
      subst this
      rfl
theorem f96_eqn {n : Nat} (hn : n ≤ 15) : f96 ((n : Int), ()) = some (((2 ^ n : Nat) : Int), ()) := by
  unfold f96
  simp only []
  have h := l96_spec n hn 18446744073709551616 0 (by omega) (by omega)
  have h' : loopN g96_1 o96_1 b96_1 18446744073709551616 ((n : Int), 1, 0, ()) = _ := h
  rw [show l96_1 = loopN g96_1 o96_1 b96_1 18446744073709551616 from rfl, h']
  rfl
theorem l85_spec {l : List Int} (hl : l.length ≤ 320) : ∀ (k i : Nat), l.length < i + k → i ≤ l.length → (∀ j, j < i → 0 ≤ l.getD j 0 ∧ l.getD j 0 ≤ 15) →
    (Ok l ∧ loopN g85_1 o85_1 b85_1 k (l, (shr (l.take i) : Int), (i : Int), ()) = some (.inl ((shr l : Int), ()))) ∨
    (¬ Ok l ∧ loopN g85_1 o85_1 b85_1 k (l, (shr (l.take i) : Int), (i : Int), ()) = some (.inr (.inl (-1, ())))) := by
  intro k
  induction k with
  | zero => intro i h1 h2; omega
  | succ k ih =>
    intro i h1 h2 hb
    rw [loopN_succ]
    generalize hL : loopN g85_1 o85_1 b85_1 k = L at ih ⊢
    unfold b85_1
    simp only [Int.toNat_natCast]
    rcases Nat.lt_or_ge i l.length with h | h
    · have hi0 : (0 : Int) ≤ (i : Int) := by omega
      have hi1 : (i : Int) < (l.length : Int) := by omega
      rw [if_pos (by rw [decide_eq_true_eq]; exact hi1), if_pos hi0, if_pos hi1]
      by_cases hx : 0 ≤ l.getD i 0 ∧ l.getD i 0 ≤ 15
      · rw [if_neg (by rw [decide_eq_true_eq]; exact Int.not_lt.2 hx.1), if_pos hi0, if_pos hi1, if_neg (by rw [decide_eq_true_eq]; exact Int.not_lt.2 hx.2), if_pos hi0, if_pos hi1]
        have hs1 := shr_take_succ h
        have hs2 := shr_le (l.take (i + 1))
        have hlt : (l.take (i + 1)).length ≤ 320 := by rw [List.length_take]; omega
        have hb' : ∀ j, j < i + 1 → 0 ≤ l.getD j 0 ∧ l.getD j 0 ≤ 15 := fun j hj => by
          by_cases e : j = i
          · rw [e]; exact hx
          · exact hb j (by omega)
        have e3 : IntKind.wrap IntKind.i64 ((i : Int) + 1) = ((i + 1 : Nat) : Int) := by rw [wrap_i64 (by omega)]; omega
        have hI := ih (i + 1) (by omega) (by omega) hb'
        by_cases hp : 0 < l.getD i 0
        · rw [if_pos (by rw [decide_eq_true_eq]; exact hp), if_pos hi0, if_pos hi1]
          rw [if_pos hp] at hs1
          have e0 : IntKind.wrap IntKind.i64 (15 - l.getD i 0) = ((15 - (l.getD i 0).toNat : Nat) : Int) := by rw [wrap_i64 (by omega)]; omega
          rw [e0, f96_eqn (by omega)]
          simp only [Option.bind_some, Sum.elim_inl]
          have e1 : IntKind.wrap IntKind.i64 ((shr (l.take i) : Int) + ((2 ^ (15 - (l.getD i 0).toNat) : Nat) : Int)) = ((shr (l.take (i + 1)) : Nat) : Int) := by
            rw [hs1]
            generalize (2 : Nat) ^ (15 - (l.getD i 0).toNat) = p at hs1
            rw [wrap_i64 (by omega)]; omega
          rw [e1, e3]
          exact hI
        · rw [if_neg (by rw [decide_eq_true_eq]; exact hp)]
          simp only [Option.bind_some, Sum.elim_inl]
          rw [if_neg hp, Nat.add_zero] at hs1
          rw [e3]
          rw [hs1] at hI
          exact hI
      · refine .inr ⟨not_ok h hx, ?_⟩
        by_cases h0 : l.getD i 0 < 0
        · rw [if_pos (by rw [decide_eq_true_eq]; exact h0)]; rfl
        · have h15 : 15 < l.getD i 0 := by omega
          rw [if_neg (by rw [decide_eq_true_eq]; exact h0), if_pos hi0, if_pos hi1, if_pos (by rw [decide_eq_true_eq]; exact h15)]; rfl
    · rw [if_neg (by rw [decide_eq_true_eq]; omega)]
      have : i = l.length := by omega
      subst this
      rw [List.take_length]
      refine .inl ⟨fun x hx => ?_, rfl⟩
      obtain ⟨j, hj, rfl⟩ := List.mem_iff_getElem.1 hx
      have := hb j hj
      rwa [List.getD_eq_getElem?_getD, List.getElem?_eq_getElem hj] at this
theorem f85_eqn (l : List Int) : (320 < l.length ∧ f85 (l, ()) = some (-1, ())) ∨ (l.length ≤ 320 ∧ ¬ Ok l ∧ f85 (l, ()) = some (-1, ())) ∨ (l.length ≤ 320 ∧ Ok l ∧ f85 (l, ()) = some ((shr l : Int), ())) := by
  unfold f85
  simp only []
  by_cases hl : 320 < l.length
  · rw [if_pos (by rw [decide_eq_true_eq]; omega)]
    exact .inl ⟨hl, rfl⟩
  · rw [if_neg (by rw [decide_eq_true_eq]; omega)]
    have h := l85_spec (l := l) (by omega) 18446744073709551616 0 (by omega) (by omega) (fun j hj => by omega)
    rw [List.take_zero] at h
    rw [show l85_1 = loopN g85_1 o85_1 b85_1 18446744073709551616 from rfl]
    rcases h with ⟨hk, h1⟩ | ⟨hk, h1⟩
    · have h1' : loopN g85_1 o85_1 b85_1 18446744073709551616 (l, 0, 0, ()) = _ := h1
      rw [h1']
      exact .inr (.inr ⟨by omega, hk, rfl⟩)
    · have h1' : loopN g85_1 o85_1 b85_1 18446744073709551616 (l, 0, 0, ()) = _ := h1
      rw [h1']
      exact .inr (.inl ⟨by omega, hk, rfl⟩)
end Go.Ev.Zlib
namespace Go.Ev.Zlib
theorem l49_2_spec (l : List Bool) (i : Nat) (out : List Int) (hi : i < 9000000) : ∀ (k r : Nat), r ≤ i % 8 → i % 8 < r + k →
    loopN g49_2 o49_2 b49_2 k (l, (i : Int), ((2 ^ r : Nat) : Int), (r : Int), out, ()) = some (.inl (l, (i : Int), ((2 ^ (i % 8) : Nat) : Int), out, ())) := by
  intro k
  induction k with
  | zero => intro r h1 h2; omega
  | succ k ih =>
    intro r h1 h2
    rw [loopN_succ]
    have hm : Int.tmod (i : Int) 8 = ((i % 8 : Nat) : Int) := by rw [Int.tmod_eq_emod_of_nonneg (by omega)]; omega
    have hp : (2 : Nat) ^ r ≤ 128 := by
      have : (2 : Nat) ^ r ≤ 2 ^ 7 := Nat.pow_le_pow_right (by omega) (by omega)
      simpa using this
    generalize hL : loopN g49_2 o49_2 b49_2 k = L at ih ⊢
    unfold b49_2
    simp only [if_true]
    rw [hm]
    rcases Nat.lt_or_ge r (i % 8) with h | h
    · have hp' : ∀ p : Nat, p ≤ 128 → IntKind.wrap .i64 (2 * (p : Int)) = ((2 * p : Nat) : Int) := fun p h => by rw [wrap_i64 (by omega)]; omega
      rw [if_pos (by simp <;> omega), hp' _ hp, wrap_i64 (by omega)]
      simp only [Option.bind_some, Sum.elim_inl]
      have := ih (r + 1) (by omega) (by omega)
      rw [Nat.pow_succ'] at this
      exact this
    · have e : r = i % 8 := by omega
      rw [if_neg (by simp <;> omega)]
      simp only [Option.bind_some, Sum.elim_inr]
      rw [e]
theorem l49_1_spec (l : List Bool) (hl : l.length ≤ 1000000) : ∀ (k i : Nat) (out : List Int), i ≤ l.length → i < k → IsB out → out.length = (l.length + 7) / 8 → valB out = 2 ^ i * nb (l.drop i) →
    ∃ o2 : List Int, loopN g49_1 o49_1 b49_1 k (l, (i : Int) - 1, out, ()) = some (.inl (o2, ())) ∧ IsB o2 ∧ o2.length = (l.length + 7) / 8 ∧ valB o2 = nb l := by
  intro k
  induction k with
  | zero => intro i out _ h; omega
  | succ k ih =>
    intro i out hi hk hb hol hv
    rw [loopN_succ]
    generalize hL : loopN g49_1 o49_1 b49_1 k = L at ih ⊢
    unfold b49_1
    simp only [if_true]
    cases i with
    | zero =>
      rw [if_neg (by simp)]
      simp only [Option.bind_some, Sum.elim_inr]
      refine ⟨out, rfl, hb, hol, ?_⟩
      simpa using hv
    | succ i =>
      have e0 : (((i + 1 : Nat) : Int) - 1) = (i : Int) := by omega
      rw [e0, if_pos (by simp), if_pos (by omega), if_pos (by omega)]
      simp only [Int.toNat_natCast]
      rcases (Bool.eq_false_or_eq_true (l.getD i false)).symm with hbit | hbit
      · rw [if_neg (by rw [hbit]; simp)]
        simp only [Option.bind_some, Sum.elim_inl]
        rw [wrap_i64 (by omega)]
        have := ih i out (by omega) (by omega) hb hol (by
          rw [hv, Go.Ev.drop_getD false (by omega : i < l.length), hbit]
          simp only [nb, Bool.toNat_false, Nat.zero_add]
          rw [Nat.pow_succ, Nat.mul_assoc])
        exact this
      · rw [if_pos hbit]
        rw [show l49_2 = loopN g49_2 o49_2 b49_2 18446744073709551616 from rfl]
        have h2 := l49_2_spec l i out (by omega) 18446744073709551616 0 (by omega) (by omega)
        have h2' : loopN g49_2 o49_2 b49_2 18446744073709551616 (l, (i : Int), 1, 0, out, ()) = _ := h2
        rw [h2']
        simp only [Option.bind_some, Sum.elim_inl]
        have hd : IntKind.wrap IntKind.i64 (Int.tdiv (i : Int) 8) = ((i / 8 : Nat) : Int) := by
          rw [Int.tdiv_eq_ediv_of_nonneg (by omega), wrap_i64 (by omega)]; omega
        have hp : (2 : Nat) ^ (i % 8) ≤ 128 := by
          have : (2 : Nat) ^ (i % 8) ≤ 2 ^ 7 := Nat.pow_le_pow_right (by omega) (by omega)
          simpa using this
        have h8 : i / 8 < out.length := by omega
        rw [hd, if_pos (by omega), if_pos (by omega), if_pos (by omega), if_pos (by omega)]
        simp only [Int.toNat_natCast, Nat.zero_add, List.length_set, if_true, wrap_u8]
        have hg := hb.get (i / 8)
        have hgv := valB_get (j := i / 8) hb
        generalize hM : nb (l.drop (i + 1)) = M at hv
        have e256 : (2 : Nat) ^ i = 256 ^ (i / 8) * 2 ^ (i % 8) := by
          rw [pow256, ← Nat.pow_add]; congr 1; omega
        have hgm : (out.getD (i / 8) 0).toNat = 2 ^ (i % 8) * ((2 * M) % 2 ^ (8 - i % 8)) := by
          rw [hgv, hv, Nat.pow_succ, e256, Nat.mul_assoc, Nat.mul_assoc, Nat.mul_div_cancel_left _ (Nat.pow_pos (by omega)), ← Nat.mul_mod_mul_left, ← Nat.pow_add, show i % 8 + (8 - i % 8) = 8 by omega]
        have hdv : 2 ^ (8 - i % 8) = 2 * 2 ^ (7 - i % 8) := by rw [← Nat.pow_succ']; congr 1; omega
        have hev : (2 * M) % 2 ^ (8 - i % 8) + 2 ≤ 2 ^ (8 - i % 8) := by
          rw [hdv, Nat.mul_mod_mul_left]
          have := Nat.mod_lt M (Nat.two_pow_pos (7 - i % 8))
          omega
        have hsum : (out.getD (i / 8) 0).toNat + 2 ^ (i % 8) < 256 := by
          rw [hgm]
          have h3 : 2 ^ (i % 8) * ((2 * M) % 2 ^ (8 - i % 8) + 2) ≤ 2 ^ (i % 8) * 2 ^ (8 - i % 8) := Nat.mul_le_mul (Nat.le_refl _) hev
          rw [← Nat.pow_add, show i % 8 + (8 - i % 8) = 8 by omega, Nat.mul_add] at h3
          have hpos := Nat.two_pow_pos (i % 8)
          have : (2:Nat)^8 = 256 := rfl
          omega
        have ev : ((out.getD (i / 8) 0 + ((2 ^ (i % 8) : Nat) : Int) % 256) % 256) = out.getD (i / 8) 0 + ((2 ^ (i % 8) : Nat) : Int) := by
          have hgen : ∀ (g : Int) (p : Nat), 0 ≤ g → p ≤ 128 → g.toNat + p < 256 → (g + (p : Int) % 256) % 256 = g + (p : Int) := fun g p h1 h2 h3 => by omega
          exact hgen _ _ hg.1 hp hsum
        rw [ev, wrap_i64 (by omega)]
        have hgen : ∀ (g : Int) (p : Nat), 0 ≤ g → g.toNat + p < 256 → (0 ≤ g + (p : Int) ∧ g + (p : Int) < 256) ∧ (g + (p : Int)).toNat = g.toNat + p := fun g p h1 h3 => by omega
        obtain ⟨hx0, hx⟩ := hgen _ _ hg.1 hsum
        refine ih i _ (by omega) (by omega) (hb.set hx0) (by simpa using hol) ?_
        have hs := valB_set (a := out) (j := i / 8) (v := out.getD (i / 8) 0 + ((2 ^ (i % 8) : Nat) : Int)) hb hx0.1 h8
        rw [hx, Nat.mul_add] at hs
        rw [Go.Ev.drop_getD false (by omega : i < l.length), hbit]
        simp only [nb, Bool.toNat_true]
        rw [hM]
        rw [Nat.mul_add, Nat.mul_one, e256]
        rw [hv, Nat.pow_succ, e256] at hs
        have e5 : 256 ^ (i / 8) * 2 ^ (i % 8) * 2 * M = 256 ^ (i / 8) * 2 ^ (i % 8) * (2 * M) := by rw [Nat.mul_assoc (256 ^ (i / 8) * 2 ^ (i % 8))]
        omega
theorem f49_spec (l : List Bool) (hl : l.length ≤ 1000000) : ∃ B : List Int, f49 (l, ()) = some (B, ()) ∧ IsB B ∧ B.length = (l.length + 7) / 8 ∧ valB B = nb l := by
  have hd : IntKind.wrap IntKind.i64 (Int.tdiv (IntKind.wrap IntKind.i64 ((l.length : Int) + 7)) 8) = (((l.length + 7) / 8 : Nat) : Int) := by
    rw [wrap_i64 (n := (l.length : Int) + 7) (by omega), Int.tdiv_eq_ediv_of_nonneg (by omega), wrap_i64 (by omega)]; omega
  obtain ⟨B, h1, h2, h3, h4⟩ := l49_1_spec l hl 18446744073709551616 l.length (List.replicate ((l.length + 7) / 8) 0) (Nat.le_refl _) (by omega) (IsB.replicate _) (by simp) (by rw [valB_replicate]; simp [nb])
  refine ⟨B, ?_, h2, h3, h4⟩
  unfold f49
  simp only []
  rw [hd, if_pos (by omega), if_pos (by omega), if_pos (by omega)]
  simp only [Int.toNat_natCast, List.length_replicate, if_true]
  rw [wrap_i64 (by omega), show l49_1 = loopN g49_1 o49_1 b49_1 18446744073709551616 from rfl, h1]
  rfl
theorem tmod2 (v : Nat) : (Int.tmod (v : Int) 2 == 1) = decide (v % 2 = 1) := by
  rw [Int.tmod_eq_emod_of_nonneg (by omega)]
  rcases Nat.mod_two_eq_zero_or_one v with h | h
  · have : ((v : Int) % 2) = 0 := by omega
    rw [this, h]; rfl
  · have : ((v : Int) % 2) = 1 := by omega
    rw [this, h]; rfl
theorem tdiv2 {v : Nat} (h : v < 9223372036854775808) : IntKind.wrap IntKind.i64 (Int.tdiv (v : Int) 2) = ((v / 2 : Nat) : Int) := by
  rw [Int.tdiv_eq_ediv_of_nonneg (by omega), wrap_i64 (by omega)]; omega
end Go.Ev.Zlib
namespace Go.Ev.Zlib
def part (l : List Int) (n s : Nat) : List Int := tab l.length (fun i => if 0 < l.getD i 0 ∧ (l.getD i 0 < (n : Int) ∨ (l.getD i 0 = (n : Int) ∧ i < s)) then code l i else 0)
theorem l67_2_spec {l : List Int} (hl : l.length ≤ 320) {n : Nat} (hn1 : 1 ≤ n) (hn : n ≤ 15) : ∀ (k s : Nat), l.length < s + k → s ≤ l.length →
    loopN g67_2 o67_2 b67_2 k (l, ((base l n + cnt (l.take s) n : Nat) : Int), (n : Int), (s : Int), part l n s, ()) = some (.inl (l, ((base l n + cnt l n : Nat) : Int), (n : Int), part l n l.length, ())) := by
  intro k
  induction k with
  | zero => intro s h1 h2; omega
  | succ k ih =>
    intro s h1 h2
    rw [loopN_succ]
    generalize hL : loopN g67_2 o67_2 b67_2 k = L at ih ⊢
    unfold b67_2
    simp only [Int.toNat_natCast, if_true, Nat.zero_add, List.length_set]
    rcases Nat.lt_or_ge s l.length with h | h
    · have hi0 : (0 : Int) ≤ (s : Int) := by omega
      have hi1 : (s : Int) < (l.length : Int) := by omega
      have hpl : (part l n s).length = l.length := tab_length _ _
      rw [if_pos (by rw [decide_eq_true_eq]; exact hi1), if_pos hi0, if_pos hi1]
      have e3 : IntKind.wrap IntKind.i64 ((s : Int) + 1) = ((s + 1 : Nat) : Int) := by rw [wrap_i64 (by omega)]; omega
      have hI := ih (s + 1) (by omega) (by omega)
      have hb := base_lim hl hn
      have hc : cnt (l.take s) n ≤ 320 := Nat.le_trans (cnt_le _ _) (by rw [List.length_take]; omega)
      have hcs : cnt (l.take (s + 1)) n = cnt (l.take s) n + if l.getD s 0 = (n : Int) then 1 else 0 := count_take_succ h _
      by_cases hx : l.getD s 0 = (n : Int)
      · rw [if_pos (by rw [hx]; simp), if_pos hi0, if_pos (by rw [hpl]; exact hi1)]
        simp only [Option.bind_some, Sum.elim_inl]
        rw [if_pos hx] at hcs
        have e4 : IntKind.wrap IntKind.i64 (((base l n + cnt (l.take s) n : Nat) : Int) + 1) = ((base l n + cnt (l.take (s + 1)) n : Nat) : Int) := by
          rw [wrap_i64 (by omega)]; omega
        have e5 : (part l n s).set s ((base l n + cnt (l.take s) n : Nat) : Int) = part l n (s + 1) := by
          unfold part
          rw [tab_set]
          refine tab_ext fun j hj => ?_
          by_cases ej : j = s
          · subst ej
            rw [if_pos rfl, if_pos ⟨by omega, .inr ⟨hx, by omega⟩⟩]
            unfold code
            rw [if_pos (by omega), hx, Int.toNat_natCast]
          · rw [if_neg ej]
            by_cases hc1 : 0 < l.getD j 0 ∧ (l.getD j 0 < (n : Int) ∨ (l.getD j 0 = (n : Int) ∧ j < s))
            · rw [if_pos hc1, if_pos ⟨hc1.1, hc1.2.imp id (fun h => ⟨h.1, by omega⟩)⟩]
            · rw [if_neg hc1, if_neg (fun h => hc1 ⟨h.1, h.2.imp id (fun h => ⟨h.1, by omega⟩)⟩)]
        rw [e3, e4, e5]
        exact hI
      · rw [if_neg (by simpa using hx)]
        simp only [Option.bind_some, Sum.elim_inl]
        rw [if_neg hx, Nat.add_zero] at hcs
        have e5 : part l n (s + 1) = part l n s := by
          unfold part
          refine tab_ext fun j hj => ?_
          by_cases ej : j = s
          · subst ej
            by_cases hc1 : 0 < l.getD j 0 ∧ l.getD j 0 < (n : Int)
            · rw [if_pos ⟨hc1.1, .inl hc1.2⟩, if_pos ⟨hc1.1, .inl hc1.2⟩]
            · rw [if_neg (fun h => h.2.elim (fun h2 => hc1 ⟨h.1, h2⟩) (fun h2 => hx h2.1)), if_neg (fun h => h.2.elim (fun h2 => hc1 ⟨h.1, h2⟩) (fun h2 => hx h2.1))]
          · by_cases hc1 : 0 < l.getD j 0 ∧ (l.getD j 0 < (n : Int) ∨ (l.getD j 0 = (n : Int) ∧ j < s))
            · rw [if_pos hc1, if_pos ⟨hc1.1, hc1.2.imp id (fun h => ⟨h.1, by omega⟩)⟩]
            · rw [if_neg hc1, if_neg (fun h => hc1 ⟨h.1, h.2.imp id (fun h => ⟨h.1, by omega⟩)⟩)]
        rw [e5, hcs] at hI
        rw [e3]
        exact hI
    · rw [if_neg (by rw [decide_eq_true_eq]; omega)]
      have : s = l.length := by omega
      subst this
      rw [List.take_length]
      rfl
theorem l67_1_spec {l : List Int} (hl : l.length ≤ 320) (hk : Ok l) : ∀ (k n : Nat) (nx : Nat), 16 < n + k → 1 ≤ n → n ≤ 16 → (n ≤ 15 → 2 * nx = base l n) → nx ≤ 100000000 →
    loopN g67_1 o67_1 b67_1 k (l, (nx : Int), (n : Int), part l n 0, ()) = some (.inl (codes l, ())) := by
  intro k
  induction k with
  | zero => intro n nx h1 h2 h3; omega
  | succ k ih =>
    intro n nx h1 h2 h3 h4 h5
    rw [loopN_succ]
    generalize hL : loopN g67_1 o67_1 b67_1 k = L at ih ⊢
    unfold b67_1
    simp only [if_true]
    rcases Nat.lt_or_ge 15 n with h | h
    · rw [if_neg (by rw [decide_eq_true_eq]; omega)]
      have hn : n = 16 := by omega
      subst hn
      have e : part l 16 0 = codes l := by
        refine tab_ext fun j hj => ?_
        have hx := hk.get j
        by_cases h0 : 0 < l.getD j 0
        · rw [if_pos ⟨h0, .inl (by omega)⟩]
        · rw [if_neg (fun h => h0 h.1)]
          unfold code
          rw [if_neg h0]
      rw [e]
      rfl
    · rw [if_pos (by rw [decide_eq_true_eq]; omega)]
      have e1 : IntKind.wrap IntKind.i64 (2 * (nx : Int)) = ((base l n : Nat) : Int) := by
        have := h4 h
        rw [wrap_i64 (by omega)]; omega
      have g := l67_2_spec hl h2 h 18446744073709551616 0 (by omega) (by omega)
      have ec : cnt (l.take 0) n = 0 := by simp [cnt]
      rw [ec, Nat.add_zero] at g
      have g' : loopN g67_2 o67_2 b67_2 18446744073709551616 (l, ((base l n : Nat) : Int), (n : Int), 0, part l n 0, ()) = _ := g
      rw [e1, show l67_2 = loopN g67_2 o67_2 b67_2 18446744073709551616 from rfl, g']
      simp only [Option.bind_some, Sum.elim_inl]
      have e2 : IntKind.wrap IntKind.i64 ((n : Int) + 1) = ((n + 1 : Nat) : Int) := by rw [wrap_i64 (by omega)]; omega
      have e3 : part l n l.length = part l (n + 1) 0 := by
        refine tab_ext fun j hj => ?_
        by_cases hc : 0 < l.getD j 0 ∧ l.getD j 0 ≤ (n : Int)
        · rw [if_pos ⟨hc.1, by omega⟩, if_pos ⟨hc.1, .inl (by omega)⟩]
        · rw [if_neg (fun h => hc ⟨h.1, by omega⟩), if_neg (fun h => hc ⟨h.1, by omega⟩)]
      have hb := base_lim hl h
      have hcn := cnt_le l n
      rw [e2, e3]
      exact ih (n + 1) (base l n + cnt l n) (by omega) (by omega) (by omega) (fun _ => (base_step h2).symm) (by omega)
theorem f67_eqn (l : List Int) : f67 (l, ()) = some (err l, (if err l = 0 then codes l else []), ()) := by
  unfold f67
  simp only []
  rcases f85_eqn l with ⟨h0, h1⟩ | ⟨h0, hk, h1⟩ | ⟨h0, hk, h1⟩
  · rw [h1]
    have he : err l = 1 := by unfold err; rw [if_pos h0]
    rw [he]; rfl
  · rw [h1]
    have he : err l = 1 := by unfold err; rw [if_neg (by omega), if_neg hk]
    rw [he]; rfl
  · rw [h1]
    simp only [Option.bind_some]
    rw [if_neg (by rw [decide_eq_true_eq]; omega)]
    by_cases hs : 32768 < shr l
    · have he : err l = 4 := by unfold err; rw [if_neg (by omega), if_pos hk, if_pos hs]
      rw [if_pos (by rw [decide_eq_true_eq]; omega), he]; rfl
    · have he : err l = 0 := by unfold err; rw [if_neg (by omega), if_pos hk, if_neg hs]
      rw [if_neg (by rw [decide_eq_true_eq]; omega), he]
      simp only [Int.toNat_natCast, List.length_replicate, if_true]
      rw [if_pos (by omega), if_pos (by omega)]
      have g := l67_1_spec h0 hk 18446744073709551616 1 0 (by omega) (by omega) (by omega) (fun _ => rfl) (by omega)
      have e2 : part l 1 0 = List.replicate l.length 0 := by
        rw [tab_zero]
        exact tab_ext fun j hj => by rw [if_neg (fun h => by omega)]
      rw [e2] at g
      have g' : loopN g67_1 o67_1 b67_1 18446744073709551616 (l, 0, 1, List.replicate l.length 0, ()) = _ := g
      rw [show l67_1 = loopN g67_1 o67_1 b67_1 18446744073709551616 from rfl, g']
      simp
end Go.Ev.Zlib
namespace Go.Ev.Zlib
theorem b67_more {w m : Nat} {bs : List Int} (hm : 8 ≤ m) (hm' : m ≤ 100) (hb : bs.length ≤ 100000) : b36_1 ((w : Int), (m : Int), bs, ()) = some (.inl (((w / 256 : Nat) : Int), ((m - 8 : Nat) : Int), bs ++ [((w % 256 : Nat) : Int)], ())) := by
  unfold b36_1
  simp only [List.drop_zero, List.take_length, List.length_append, wrap_u8, fdiv_256]
  rw [if_pos (by simp <;> omega), if_pos (by simp <;> omega), wrap_i64 (by omega)]
  simp only [if_true]
  congr 4
  omega
theorem b67_end {w m : Nat} {bs : List Int} (hm : m < 8) : b36_1 ((w : Int), (m : Int), bs, ()) = some (.inr (.inl ((w : Int), (m : Int), bs, ()))) := by
  unfold b36_1
  simp only [if_true]
  rw [if_neg (by simp <;> omega)]
def V (bs : List Int) (w : Nat) : Nat := valB bs + 256 ^ bs.length * w
theorem l36_spec : ∀ (k m w : Nat) (bs : List Int), m < 8 * k → m ≤ 31 → w < 2 ^ m → IsB bs → bs.length ≤ 90000 + (31 - m) →
    ∃ (w' m' : Nat) (bs' : List Int), loopN g36_1 o36_1 b36_1 k ((w : Int), (m : Int), bs, ()) = some (.inl ((w' : Int), (m' : Int), bs', ())) ∧ m' < 8 ∧ w' < 2 ^ m' ∧ IsB bs' ∧ 8 * bs'.length + m' = 8 * bs.length + m ∧ V bs' w' = V bs w := by
  intro k
  induction k with
  | zero => intro m w bs h; omega
  | succ k ih =>
    intro m w bs hk hm hw hb hl
    rw [loopN_succ]
    rcases Nat.lt_or_ge m 8 with h8 | h8
    · rw [b67_end h8]
      exact ⟨w, m, bs, rfl, h8, hw, hb, rfl, rfl⟩
    · rw [b67_more h8 (by omega) (by omega)]
      have hw' : w / 256 < 2 ^ (m - 8) := by
        rw [Nat.div_lt_iff_lt_mul (by omega), show (256 : Nat) = 2 ^ 8 by rfl, ← Nat.pow_add]
        rwa [show m - 8 + 8 = m by omega]
      obtain ⟨w', m', bs', h1, h2, h3, h4, h5, h6⟩ := ih (m - 8) (w / 256) (bs ++ [((w % 256 : Nat) : Int)]) (by omega) (by omega) hw' (hb.append (fun x hx => by rw [List.mem_singleton] at hx; rw [hx]; omega)) (by simp <;> omega)
      refine ⟨w', m', bs', h1, h2, h3, h4, by rw [h5]; simp; omega, ?_⟩
      rw [h6]
      unfold V
      rw [valB_append]
      simp only [valB, List.length_append, List.length_cons, List.length_nil, Nat.pow_succ, Nat.mul_zero, Nat.add_zero, Nat.zero_add]
      have e : w = w % 256 + 256 * (w / 256) := by omega
      have e2 : 256 ^ bs.length * w = 256 ^ bs.length * (w % 256) + 256 ^ bs.length * 256 * (w / 256) := by
        rw [Nat.mul_assoc, ← Nat.mul_add, ← e]
      simp only [Int.toNat_natCast]
      omega
theorem f67_good {v n w m : Nat} {bs : List Int} (hn : n ≤ 24) (hv : v < 2 ^ n) (hm : m < 8) (hw : w < 2 ^ m) (hb : IsB bs) (hl : bs.length ≤ 90000) :
    ∃ (w' m' : Nat) (bs' : List Int), f36 ((v : Int), (n : Int), (w : Int), (m : Int), bs, ()) = some (0, (w' : Int), (m' : Int), bs', ()) ∧ m' < 8 ∧ w' < 2 ^ m' ∧ IsB bs' ∧ 8 * bs'.length + m' = 8 * bs.length + m + n ∧ V bs' w' = V bs w + v * 2 ^ (8 * bs.length + m) := by
  have hpm : (2 : Nat) ^ m ≤ 128 := by
    have : (2 : Nat) ^ m ≤ 2 ^ 7 := Nat.pow_le_pow_right (by omega) (by omega)
    simpa using this
  have hpn : (2 : Nat) ^ n ≤ 16777216 := by
    have : (2 : Nat) ^ n ≤ 2 ^ 24 := Nat.pow_le_pow_right (by omega) (by omega)
    simpa using this
  have hvm : v * 2 ^ m ≤ 16777216 * 128 := Nat.mul_le_mul (by omega) hpm
  have hwv : w + v * 2 ^ m < 2 ^ (m + n) := by
    have h1 : (v + 1) * 2 ^ m ≤ 2 ^ n * 2 ^ m := Nat.mul_le_mul (by omega) (Nat.le_refl _)
    rw [Nat.pow_add, Nat.mul_comm (2 ^ m)]
    rw [Nat.succ_mul] at h1
    omega
  obtain ⟨w', m', bs', h1, h2, h3, h4, h5, h6⟩ := l36_spec 18446744073709551616 (m + n) (w + v * 2 ^ m) bs (by omega) (by omega) hwv hb (by omega)
  refine ⟨w', m', bs', ?_, h2, h3, h4, by omega, ?_⟩
  · unfold f36
    simp only [if_true]
    rw [if_neg (by simp <;> omega), if_neg (by simp <;> omega), if_neg (by simp <;> omega), if_neg (by omega), if_neg, if_neg (by omega)]
    · rw [minN (by omega)]
      have e1 : IntKind.wrap IntKind.i64 ((v : Int) * 2 ^ m) = ((v * 2 ^ m : Nat) : Int) := by
        rw [show ((v : Int) * 2 ^ m) = ((v * 2 ^ m : Nat) : Int) by simp]
        exact wrap_i64 (by omega)
      rw [e1, or64 (by omega) (by omega), or_split v hw, wrap_i64 (by omega), wrap_i64 (by omega)]
      rw [show ((m : Int) + (n : Int)) = ((m + n : Nat) : Int) by simp]
      rw [show l36_1 = loopN g36_1 o36_1 b36_1 18446744073709551616 from rfl, h1]
      rfl
    · rw [minN (by omega), fdiv_pow, Nat.div_eq_of_lt hv]
      simp
  · rw [h6]
    unfold V
    rw [Nat.mul_add, Nat.pow_add, ← pow256, Nat.mul_comm v (256 ^ bs.length * 2 ^ m), Nat.mul_assoc, Nat.mul_comm (2 ^ m) v]
    omega
theorem f41_eqn {w m : Nat} {bs : List Int} (h : bs.length ≤ 90000) : f41 ((w : Int), (m : Int), bs, ()) = some ((w : Int), (m : Int), bs, outB w m bs, ()) := by
  unfold f41
  simp only [List.drop_zero, List.take_length]
  rw [f66_eqn (by omega)]
  simp only [Option.bind_some, wrap_u8, if_true]
  unfold outB
  by_cases h0 : 0 < m
  · rw [if_pos (by simp <;> omega), if_pos (by simp <;> omega), if_pos h0]
    rfl
  · rw [if_neg (by simp <;> omega), if_neg h0]
theorem outB_spec {w m : Nat} {bs : List Int} (hm : m < 8) (hw : w < 2 ^ m) (hb : IsB bs) : IsB (outB w m bs) ∧ valB (outB w m bs) = V bs w ∧ (outB w m bs).length = (8 * bs.length + m + 7) / 8 := by
  unfold outB
  by_cases h0 : 0 < m
  · rw [if_pos h0]
    have hp : (2 : Nat) ^ m ≤ 128 := by
      have : (2 : Nat) ^ m ≤ 2 ^ 7 := Nat.pow_le_pow_right (by omega) (by omega)
      simpa using this
    have e : w % 256 = w := by omega
    rw [e]
    refine ⟨hb.append (fun x hx => by rw [List.mem_singleton] at hx; rw [hx]; omega), ?_, by simp; omega⟩
    rw [valB_append]; unfold V
    simp [valB]
  · rw [if_neg h0]
    have : m = 0 := by omega
    subst this
    have hw0 : w = 0 := by simpa using hw
    subst hw0
    exact ⟨hb, by unfold V; simp, by omega⟩
end Go.Ev.Zlib
namespace Go.Ev.Zlib
structure Wr (bits : List Bool) (w m : Nat) (bs : List Int) : Prop where
  hm : m < 8
  hw : w < 2 ^ m
  hb : IsB bs
  len : 8 * bs.length + m = bits.length
  num : V bs w = nb bits
theorem Wr.nil : Wr [] 0 0 [] := ⟨by decide, by decide, (fun _ h => by cases h), rfl, rfl⟩
theorem Wr.put {bits : List Bool} {w m : Nat} {bs : List Int} (h : Wr bits w m bs) (hl : bits.length ≤ 700000) {n v : Nat} (hn : n ≤ 24) (hv : v < 2 ^ n) :
    ∃ (w' m' : Nat) (bs' : List Int), f36 ((v : Int), (n : Int), (w : Int), (m : Int), bs, ()) = some (0, (w' : Int), (m' : Int), bs', ()) ∧ Wr (bits ++ bitsN v n) w' m' bs' := by
  have hlen := h.len
  obtain ⟨w', m', bs', h1, h2, h3, h4, h5, h6⟩ := f67_good hn hv h.hm h.hw h.hb (by omega)
  refine ⟨w', m', bs', h1, h2, h3, h4, ?_, ?_⟩
  · rw [List.length_append, bitsN_length]; omega
  · rw [h6, h.num, hlen, nb_append, nb_bitsN, Nat.mod_eq_of_lt hv, Nat.mul_comm]
theorem Wr.put1 {bits : List Bool} {w m : Nat} {bs : List Int} (h : Wr bits w m bs) (hl : bits.length ≤ 700000) {v : Nat} (hv : v < 2) :
    ∃ (w' m' : Nat) (bs' : List Int), f36 ((v : Int), 1, (w : Int), (m : Int), bs, ()) = some (0, (w' : Int), (m' : Int), bs', ()) ∧ Wr (bits ++ [decide (v = 1)]) w' m' bs' := by
  obtain ⟨w', m', bs', h1, h2⟩ := h.put hl (n := 1) (v := v) (by omega) hv
  refine ⟨w', m', bs', h1, ?_⟩
  have e : bitsN v 1 = [decide (v = 1)] := by
    have : bitsN v 1 = [decide (v % 2 = 1)] := rfl
    rw [this, Nat.mod_eq_of_lt hv]
  rw [e] at h2
  exact h2
theorem Wr.bytes {bits : List Bool} {w m : Nat} {bs : List Int} (h : Wr bits w m bs) (hl : bits.length ≤ 700000) :
    ∃ B : List Int, f41 ((w : Int), (m : Int), bs, ()) = some ((w : Int), (m : Int), bs, B, ()) ∧ IsB B ∧ B.length = (bits.length + 7) / 8 ∧ valB B = nb bits := by
  have hlen := h.len
  obtain ⟨h1, h2, h3⟩ := outB_spec h.hm h.hw h.hb
  exact ⟨outB w m bs, f41_eqn (by omega), h1, by rw [h3, hlen], by rw [h2, h.num]⟩
def wb : Nat → Nat → List Bool
  | _, 0 => []
  | c, n + 1 => wb (c / 2) n ++ [decide (c % 2 = 1)]
theorem wb_length : ∀ (n c : Nat), (wb c n).length = n
  | 0, c => rfl
  | n + 1, c => by rw [wb, List.length_append, wb_length n, List.length_singleton]
theorem wb_grow (c : Nat) {n k : Nat} (h : k < n) : wb (c / 2 ^ (n - (k + 1))) (k + 1) = wb (c / 2 ^ (n - k)) k ++ [decide (c / 2 ^ (n - (k + 1)) % 2 = 1)] := by
  rw [wb, Nat.div_div_eq_div_mul, ← Nat.pow_succ, show (n - (k + 1)).succ = n - k by omega]
theorem l45_1_spec : ∀ (k n c : Nat) (suf : List Bool), n < k → n ≤ 15 → c < 1000000000 → n + suf.length ≤ 100 →
    loopN g45_1 o45_1 b45_1 k ((c : Int), (n : Int) - 1, List.replicate n false ++ suf, ()) = some (.inl (wb c n ++ suf, ())) := by
  intro k
  induction k with
  | zero => intro n c suf h; omega
  | succ k ih =>
    intro n c suf h1 h2 h3 h4
    rw [loopN_succ]
    generalize hL : loopN g45_1 o45_1 b45_1 k = L at ih ⊢
    unfold b45_1
    dsimp only
    cases n with
    | zero => rw [if_neg (by rw [decide_eq_true_eq]; omega), if_pos rfl]; rfl
    | succ n =>
      have e : (((n + 1 : Nat) : Int) - 1) = (n : Int) := by omega
      have hs : (List.replicate (n + 1) false ++ suf).set n (decide (c % 2 = 1)) = List.replicate n false ++ (decide (c % 2 = 1) :: suf) := by
        rw [List.replicate_succ', List.append_assoc, List.set_append_right _ _ (by rw [List.length_replicate]; omega), List.length_replicate, Nat.sub_self]
        rfl
      rw [e, if_pos (by rw [decide_eq_true_eq]; omega), if_pos (by omega), if_pos (by rw [List.length_append, List.length_replicate]; omega), if_pos (by rw [List.length_set]), Int.toNat_natCast, Nat.zero_add, tmod2, tdiv2 (by omega), hs, Option.bind_some, Sum.elim_inl, wrap_i64 (n := (n : Int) - 1) (by omega), ih n (c / 2) _ (by omega) (by omega) (by omega) (by rw [List.length_cons]; omega), wb, List.append_assoc]
      rfl
def word (l : List Int) (s : Int) : List Bool := if 0 ≤ s ∧ s < ((l.length : Nat) : Int) then wb (code l s.toNat).toNat (l.getD s.toNat 0).toNat else []
theorem code_lim {l : List Int} (hl : l.length ≤ 320) (hk : Ok l) (s : Nat) : 0 ≤ code l s ∧ code l s ≤ 20000000 := by
  have h := hk.get s
  unfold code
  by_cases c : 0 < l.getD s 0
  · rw [if_pos c]
    have h1 := base_lim hl (n := (l.getD s 0).toNat) (by omega)
    have h2 := cnt_le (l.take s) (l.getD s 0).toNat
    have h3 : (l.take s).length ≤ l.length := by rw [List.length_take]; omega
    omega
  · rw [if_neg c]; omega
theorem word_length_le {l : List Int} (hk : Ok l) (s : Int) : (word l s).length ≤ 15 := by
  unfold word
  by_cases c : 0 ≤ s ∧ s < ((l.length : Nat) : Int)
  · rw [if_pos c, wb_length]
    have h := hk.get s.toNat
    omega
  · rw [if_neg c]; exact Nat.zero_le _
theorem f45_eqn {l : List Int} (he : err l = 0) (s : Int) : f45 (l, s, ()) = some (word l s, ()) := by
  obtain ⟨hl, hk, _⟩ := err_ok he
  unfold f45 word
  dsimp only
  by_cases c1 : s < 0
  · rw [if_pos (decide_eq_true c1), if_neg (by omega)]
  · rw [if_neg (fun h => c1 (of_decide_eq_true h))]
    by_cases c2 : s ≥ ((l.length : Nat) : Int)
    · rw [if_pos (decide_eq_true c2), if_neg (by omega)]
    · rw [if_neg (fun h => c2 (of_decide_eq_true h)), if_pos (by omega), if_pos (by omega), if_pos (show 0 ≤ s ∧ s < ((l.length : Nat) : Int) by omega)]
      have h := hk.get s.toNat
      have hcl : (codes l).length = l.length := tab_length ..
      have hcg : (codes l).getD (0 + s.toNat) 0 = code l s.toNat := by rw [Nat.zero_add]; exact tab_get (by omega) _
      have hc := code_lim hl hk s.toNat
      rw [f67_eqn, if_pos he]
      generalize hx : l.getD s.toNat 0 = x at h ⊢
      obtain ⟨n, rfl⟩ : ∃ n : Nat, x = (n : Int) := ⟨x.toNat, by omega⟩
      by_cases c3 : n = 0
      · subst c3
        rw [if_pos (by rfl)]
        rfl
      · have w1 : IntKind.wrap .i64 ((n : Int) - 1) = (n : Int) - 1 := wrap_i64 (by omega)
        have w2 : (code l s.toNat) = (((code l s.toNat).toNat : Nat) : Int) := by omega
        have hr := l45_1_spec 18446744073709551616 n (code l s.toNat).toNat [] (by omega) (by omega) (by omega) (by rw [List.length_nil]; omega)
        rw [List.append_nil, List.append_nil] at hr
        rw [if_neg (show ¬ ((((n : Int)) == 0) = true) by rw [beq_iff_eq]; omega), Option.bind_some]
        dsimp only
        rw [if_pos (by omega), if_pos (by omega), if_pos (by omega), if_pos (show (n : Int) ≤ (n : Int) from Int.le_refl _), if_pos (show (n : Int) ≤ 281474976710656 by omega), if_pos (by omega), if_pos (by omega), if_pos (by omega), if_pos (by omega), Int.toNat_natCast, if_pos (by rw [List.length_replicate]), hcg, w1, w2, show l45_1 = loopN g45_1 o45_1 b45_1 18446744073709551616 from rfl, hr, Option.bind_some, Sum.elim_inl]
        dsimp only
        rw [if_pos rfl, Int.toNat_natCast]
theorem f65_eqn {l : List Int} (hl : l.length ≤ 320) (hk : Ok l) {s : Nat} (hs : s < l.length) {n k : Nat} (hx : l.getD s 0 = (n : Int)) (hkn : k < n) (x2 x5 : List Int) :
    f65 ((k : Int), x2, l, codes l, x5, (s : Int), ()) = some ((((code l s).toNat / 2 ^ (n - (k + 1)) % 2 : Nat) : Int), x2, l, codes l, x5, (s : Int), ()) := by
  have hcl : (codes l).length = l.length := tab_length ..
  have hcg : (codes l).getD s 0 = code l s := tab_get hs _
  have hc := code_lim hl hk s
  have hn := hk.get s
  rw [hx] at hn
  have w2 : (code l s) = (((code l s).toNat : Nat) : Int) := by omega
  unfold f65
  dsimp only
  have w1 : IntKind.wrap .i64 (IntKind.wrap .i64 ((n : Int) - 1) - (k : Int)) = ((n - (k + 1) : Nat) : Int) := by rw [wrap_i64 (n := (n : Int) - 1) (by omega), wrap_i64 (by omega)]; omega
  rw [if_pos (by omega), if_pos (by omega), if_pos (by omega), if_pos (by omega), Int.toNat_natCast, hx, hcg, w1, if_neg (by omega), if_pos rfl, minN (by omega), w2, fdiv_pow, Int.toNat_natCast]
  generalize hv : (code l s).toNat / 2 ^ (n - (k + 1)) = v
  have hvl : v ≤ 20000000 := by
    rw [← hv]
    exact Nat.le_trans (Nat.div_le_self _ _) (by omega)
  have e : (BitVec.ofInt 64 (v : Int) &&& BitVec.ofInt 64 1).toNat = v % 2 := by
    rw [show (1 : Int) = ((1 : Nat) : Int) from rfl, and64 (by omega) (by omega), Nat.and_one_is_mod]
  rw [e, wrap_i64 (by omega)]
theorem l38_1_spec {l : List Int} (hl : l.length ≤ 320) (hk : Ok l) {s : Nat} (hs : s < l.length) {n : Nat} (hx : l.getD s 0 = (n : Int)) (x2 x5 : List Int) {bits : List Bool} (hbl : bits.length ≤ 100000) : ∀ (j k w m : Nat) (bs : List Int), n < k + j → k ≤ n → Wr (bits ++ wb ((code l s).toNat / 2 ^ (n - k)) k) w m bs →
    ∃ (w' m' : Nat) (bs' : List Int), loopN g38_1 o38_1 b38_1 j ((n : Int), (k : Int), x2, l, codes l, x5, (w : Int), (m : Int), (s : Int), bs, ()) = some (.inl (x2, l, codes l, x5, (w' : Int), (m' : Int), bs', ())) ∧ Wr (bits ++ wb (code l s).toNat n) w' m' bs' := by
  have hn := hk.get s
  rw [hx] at hn
  intro j
  induction j with
  | zero => intro k w m bs h1 h2; omega
  | succ j ih =>
    intro k w m bs h1 h2 h3
    rw [loopN_succ]
    generalize hL : loopN g38_1 o38_1 b38_1 j = L at ih ⊢
    unfold b38_1
    dsimp only
    rcases Nat.lt_or_ge k n with h | h
    · obtain ⟨w', m', bs', p1, p2⟩ := h3.put1 (v := (code l s).toNat / 2 ^ (n - (k + 1)) % 2) (by rw [List.length_append, wb_length]; omega) (Nat.mod_lt _ (by decide))
      rw [List.append_assoc, ← wb_grow _ h] at p2
      rw [if_pos (by rw [decide_eq_true_eq]; omega), if_pos rfl, f65_eqn hl hk hs hx h, Option.bind_some]
      dsimp only
      rw [if_pos rfl, p1, Option.bind_some]
      dsimp only
      rw [if_neg (by decide), if_pos rfl, if_pos rfl, Option.bind_some, Sum.elim_inl, show IntKind.wrap .i64 ((k : Int) + 1) = ((k + 1 : Nat) : Int) by rw [wrap_i64 (by omega)]; omega]
      exact ih (k + 1) w' m' bs' (by omega) (by omega) p2
    · have e : k = n := by omega
      subst e
      rw [Nat.sub_self, Nat.pow_zero, Nat.div_one] at h3
      rw [if_neg (by rw [decide_eq_true_eq]; omega), if_pos rfl, if_pos rfl]
      exact ⟨w, m, bs, rfl, h3⟩
theorem f38_eqn {l : List Int} (hl : l.length ≤ 320) (hk : Ok l) (s : Int) (x2 x5 : List Int) {bits : List Bool} (hbl : bits.length ≤ 100000) {w m : Nat} {bs : List Int} (hw : Wr bits w m bs) :
    ∃ (e : Int) (w' m' : Nat) (bs' : List Int), f38 (s, x2, l, codes l, x5, (w : Int), (m : Int), bs, ()) = some (e, x2, l, codes l, x5, (w' : Int), (m' : Int), bs', ()) ∧ Wr (bits ++ word l s) w' m' bs' ∧ ((word l s = [] ∧ e = 8) ∨ (word l s ≠ [] ∧ e = 0)) := by
  unfold f38 word
  dsimp only
  by_cases c1 : s < 0
  · rw [if_pos (decide_eq_true c1), if_pos rfl, if_pos rfl, if_neg (by omega), List.append_nil]
    exact ⟨8, w, m, bs, rfl, hw, .inl ⟨rfl, rfl⟩⟩
  · rw [if_neg (fun h => c1 (of_decide_eq_true h))]
    by_cases c2 : s ≥ ((l.length : Nat) : Int)
    · rw [if_pos (decide_eq_true c2), if_pos rfl, if_pos rfl, if_neg (by omega), List.append_nil]
      exact ⟨8, w, m, bs, rfl, hw, .inl ⟨rfl, rfl⟩⟩
    · rw [if_neg (fun h => c2 (of_decide_eq_true h)), if_pos (by omega), if_pos (by omega), if_pos (show 0 ≤ s ∧ s < ((l.length : Nat) : Int) by omega)]
      obtain ⟨t, rfl⟩ : ∃ t : Nat, s = (t : Int) := ⟨s.toNat, by omega⟩
      have h := hk.get t
      rw [Int.toNat_natCast]
      generalize hx : l.getD t 0 = x at h ⊢
      obtain ⟨n, rfl⟩ : ∃ n : Nat, x = (n : Int) := ⟨x.toNat, by omega⟩
      rw [Int.toNat_natCast]
      by_cases c3 : n = 0
      · subst c3
        rw [if_pos (show (((0 : Nat) : Int) == 0) = true from rfl), if_pos rfl, if_pos rfl]
        have e : wb (code l t).toNat 0 = [] := rfl
        rw [e, List.append_nil]
        exact ⟨8, w, m, bs, rfl, hw, .inl ⟨rfl, rfl⟩⟩
      · have hw0 : Wr (bits ++ wb ((code l t).toNat / 2 ^ (n - 0)) 0) w m bs := by
          have e : ∀ c, wb c 0 = [] := fun _ => rfl
          rw [e, List.append_nil]; exact hw
        obtain ⟨w', m', bs', p1, p2⟩ := l38_1_spec hl hk (by omega) hx x2 x5 hbl 18446744073709551616 0 w m bs (by omega) (by omega) hw0
        have p1' : loopN g38_1 o38_1 b38_1 18446744073709551616 ((n : Int), 0, x2, l, codes l, x5, (w : Int), (m : Int), (t : Int), bs, ()) = _ := p1
        rw [if_neg (show ¬ ((((n : Nat) : Int) == 0) = true) by rw [beq_iff_eq]; omega), if_pos (by omega), if_pos (by omega), if_pos rfl, if_pos rfl, show l38_1 = loopN g38_1 o38_1 b38_1 18446744073709551616 from rfl, p1', Option.bind_some, Sum.elim_inl]
        dsimp only
        rw [if_pos rfl, if_pos rfl]
        refine ⟨0, w', m', bs', rfl, p2, .inr ⟨fun e => ?_, rfl⟩⟩
        have := congrArg List.length e
        rw [wb_length, List.length_nil] at this
        exact c3 this
end Go.Ev.Zlib
namespace Go.Ev.Zlib
end Go.Ev.Zlib
namespace Go.Ev.Zlib
def longT : List Tok := (List.range 29).map fun (i : Nat) => (((257 + i : Nat) : Int), ((lenB (257 + i)).1 : Int), ((lenB (257 + i)).2 : Int))
def behT : List Tok := (List.range 30).map fun (i : Nat) => ((i : Int), ((bkB i).1 : Int), ((bkB i).2 : Int))
set_option maxRecDepth 100000 in
theorem f39_long : f39 () = some (longT, ()) := by kernel_rfl
set_option maxRecDepth 100000 in
theorem f40_beh : f40 () = some (behT, ()) := by kernel_rfl
theorem longT_get {i : Nat} (h : i < 29) : longT.getD i (0, 0, 0) = (((257 + i : Nat) : Int), ((lenB (257 + i)).1 : Int), ((lenB (257 + i)).2 : Int)) := by
  unfold longT
  rw [List.getD_eq_getElem?_getD, List.getElem?_map, List.getElem?_range h]
  rfl
theorem behT_get {i : Nat} (h : i < 30) : behT.getD i (0, 0, 0) = ((i : Int), ((bkB i).1 : Int), ((bkB i).2 : Int)) := by
  unfold behT
  rw [List.getD_eq_getElem?_getD, List.getElem?_map, List.getElem?_range h]
  rfl
def pick (P : List Tok) (v : Int) : Nat → Nat
  | 0 => 0
  | i + 1 => if (P.getD (i + 1) (0, 0, 0)).2.1 > v then pick P v i else i + 1
theorem pick_spec (P : List Tok) (v : Int) (h0 : (P.getD 0 (0, 0, 0)).2.1 ≤ v) : ∀ i, (P.getD (pick P v i) (0, 0, 0)).2.1 ≤ v ∧ pick P v i ≤ i ∧ (pick P v i < i → v < (P.getD (pick P v i + 1) (0, 0, 0)).2.1)
  | 0 => ⟨h0, Nat.le_refl _, fun h => absurd h (Nat.lt_irrefl _)⟩
  | i + 1 => by
    unfold pick
    by_cases c : (P.getD (i + 1) (0, 0, 0)).2.1 > v
    · rw [if_pos c]
      obtain ⟨h1, h2, h3⟩ := pick_spec P v h0 i
      refine ⟨h1, by omega, fun _ => ?_⟩
      rcases Nat.lt_or_ge (pick P v i) i with h | h
      · exact h3 h
      · have e : pick P v i = i := by omega
        rw [e]; exact c
    · rw [if_neg c]
      exact ⟨by omega, Nat.le_refl _, fun h => absurd h (Nat.lt_irrefl _)⟩
def lsg (v : Int) : Nat := 257 + pick longT v 28
def bsg (v : Int) : Nat := pick behT v 29
theorem len_next : ∀ i, i < 28 → (lenB (257 + (i + 1))).1 ≤ (lenB (257 + i)).1 + 2 ^ (lenB (257 + i)).2 := by decide
theorem bk_next : ∀ i, i < 29 → (bkB (i + 1)).1 ≤ (bkB i).1 + 2 ^ (bkB i).2 := by decide
theorem lsg_ok {v : Nat} (h1 : 3 ≤ v) (h2 : v ≤ 258) : 257 ≤ lsg (v : Int) ∧ lsg (v : Int) ≤ 285 ∧ (lenB (lsg (v : Int))).1 ≤ v ∧ v < (lenB (lsg (v : Int))).1 + 2 ^ (lenB (lsg (v : Int))).2 := by
  obtain ⟨g1, g2, g3⟩ := pick_spec longT (v : Int) (by rw [longT_get (by omega)]; show (3 : Int) ≤ v; omega) 28
  unfold lsg
  generalize pick longT (v : Int) 28 = i at g1 g2 g3 ⊢
  rw [longT_get (by omega)] at g1
  dsimp only at g1
  refine ⟨by omega, by omega, by omega, ?_⟩
  rcases Nat.lt_or_ge i 28 with h | h
  · have g4 := g3 h
    rw [longT_get (by omega)] at g4
    dsimp only at g4
    have := len_next i h
    omega
  · have e : i = 28 := by omega
    subst e
    show v < 258 + 1
    omega
theorem bsg_ok {v : Nat} (h1 : 1 ≤ v) (h2 : v ≤ 32768) : bsg (v : Int) < 30 ∧ (bkB (bsg (v : Int))).1 ≤ v ∧ v < (bkB (bsg (v : Int))).1 + 2 ^ (bkB (bsg (v : Int))).2 := by
  obtain ⟨g1, g2, g3⟩ := pick_spec behT (v : Int) (by rw [behT_get (by omega)]; show (1 : Int) ≤ v; omega) 29
  unfold bsg
  generalize pick behT (v : Int) 29 = i at g1 g2 g3 ⊢
  rw [behT_get (by omega)] at g1
  dsimp only at g1
  refine ⟨by omega, by omega, ?_⟩
  rcases Nat.lt_or_ge i 29 with h | h
  · have g4 := g3 h
    rw [behT_get (by omega)] at g4
    dsimp only at g4
    have := bk_next i h
    omega
  · have e : i = 29 := by omega
    subst e
    show v < 24577 + 8192
    omega
theorem l37_1_spec (P : List Tok) (v : Int) (x3 x4 x5 x6 : List Int) (w m : Int) (bs : List Int) (h0 : (P.getD 0 (0, 0, 0)).2.1 ≤ v) : ∀ (k i : Nat), i < k → i < P.length → i ≤ 1000 →
    loopN g37_1 o37_1 b37_1 k (P, v, (i : Int), x3, x4, x5, x6, w, m, bs, ()) = some (.inl (P, v, ((pick P v i : Nat) : Int), x3, x4, x5, x6, w, m, bs, ())) := by
  intro k
  induction k with
  | zero => intro i h; omega
  | succ k ih =>
    intro i h1 h2 h3
    rw [loopN_succ]
    generalize hL : loopN g37_1 o37_1 b37_1 k = L at ih ⊢
    unfold b37_1
    dsimp only
    rw [if_pos (by omega), if_pos (by omega), Int.toNat_natCast]
    cases i with
    | zero =>
      rw [if_neg (fun h => Int.not_lt.2 h0 (of_decide_eq_true h)), if_pos rfl, if_pos rfl]
      rfl
    | succ i =>
      unfold pick
      by_cases c : (P.getD (i + 1) (0, 0, 0)).2.1 > v
      · rw [if_pos (decide_eq_true c), if_pos c, if_pos rfl, if_pos rfl, Option.bind_some, Sum.elim_inl, show IntKind.wrap .i64 (((i + 1 : Nat) : Int) - 1) = ((i : Nat) : Int) by rw [wrap_i64 (by omega)]; omega]
        exact ih i (by omega) (by omega) (by omega)
      · rw [if_neg (fun h => c (of_decide_eq_true h)), if_neg c, if_pos rfl, if_pos rfl]
        rfl
theorem f37_eqn {P : List Tok} (hP : P.length ≤ 30) (hP1 : 1 ≤ P.length) {v s least more : Nat} (h0 : (P.getD 0 (0, 0, 0)).2.1 ≤ (v : Int)) (hv : v ≤ 100000) (hg : P.getD (pick P (v : Int) (P.length - 1)) (0, 0, 0) = ((s : Int), (least : Int), (more : Int)))
    (hm : more ≤ 24) (hl1 : least ≤ v) (hl2 : v < least + 2 ^ more) {l : List Int} (hl : l.length ≤ 320) (hk : Ok l) (x2 x5 : List Int) {bits : List Bool} (hbl : bits.length ≤ 99980) {w m : Nat} {bs : List Int} (hw : Wr bits w m bs) :
    ∃ (w' m' : Nat) (bs' : List Int), f37 (P, (v : Int), x2, l, codes l, x5, (w : Int), (m : Int), bs, ()) = some (x2, l, codes l, x5, (w' : Int), (m' : Int), bs', ()) ∧ Wr (bits ++ (word l (s : Int) ++ bitsN (v - least) more)) w' m' bs' := by
  obtain ⟨e, w1, m1, bs1, r1, r2, _⟩ := f38_eqn hl hk (s : Int) x2 x5 (by omega) hw
  have hwl := word_length_le hk (s : Int)
  obtain ⟨w2, m2, bs2, r3, r4⟩ := r2.put (by rw [List.length_append]; omega) hm (show v - least < 2 ^ more by omega)
  refine ⟨w2, m2, bs2, ?_, by rw [← List.append_assoc]; exact r4⟩
  have hp := (pick_spec P (v : Int) h0 (P.length - 1)).2.1
  have h := l37_1_spec P (v : Int) x2 l (codes l) x5 (w : Int) (m : Int) bs h0 FU (P.length - 1) (by unfold FU; omega) (by omega) (by omega)
  generalize pick P (v : Int) (P.length - 1) = i at hg hp h
  unfold f37
  dsimp only
  rw [if_pos rfl, if_pos rfl, show IntKind.wrap .i64 (((P.length : Nat) : Int) - 1) = ((P.length - 1 : Nat) : Int) by rw [wrap_i64 (by omega)]; omega, show l37_1 = loopN g37_1 o37_1 b37_1 FU from rfl, h, Option.bind_some, Sum.elim_inl]
  dsimp only
  have w3 : IntKind.wrap .i64 ((v : Int) - (least : Int)) = ((v - least : Nat) : Int) := by rw [wrap_i64 (by omega)]; omega
  rw [Int.toNat_natCast, hg]
  dsimp only
  rw [if_pos (by omega), if_pos (by omega), if_pos rfl, if_pos rfl, r1, Option.bind_some]
  dsimp only
  rw [if_pos (by omega), if_pos (by omega), if_pos (by omega), if_pos (by omega), if_pos rfl, w3, r3, Option.bind_some]
  dsimp only
  rw [if_pos rfl, if_pos rfl]
def tokB (t : Tok) : List Bool := if t.2.1 = 0 then word fixL t.1 else word fixL ((lsg t.2.1 : Nat) : Int) ++ bitsN (t.2.1.toNat - (lenB (lsg t.2.1)).1) (lenB (lsg t.2.1)).2 ++ (word fixD ((bsg t.2.2 : Nat) : Int) ++ bitsN (t.2.2.toNat - (bkB (bsg t.2.2)).1) (bkB (bsg t.2.2)).2)
def toksB (T : List Tok) : List Bool := T.flatMap tokB
theorem fixL_ok : Ok fixL ∧ fixL.length = 288 ∧ (∀ x ∈ fixL, 0 < x ∧ x ≤ 9) := by
  have h : ∀ x ∈ fixL, 0 < x ∧ x ≤ 9 := by decide +kernel
  exact ⟨fun x hx => by have := h x hx; omega, by decide +kernel, h⟩
theorem fixD_ok : Ok fixD ∧ fixD.length = 32 ∧ (∀ x ∈ fixD, x = 5) := by
  have h : ∀ x ∈ fixD, x = 5 := by decide +kernel
  exact ⟨fun x hx => by have := h x hx; omega, by decide +kernel, h⟩
theorem word_len (l : List Int) {n : Nat} (h : ∀ x ∈ l, x ≤ (n : Int)) (s : Int) : (word l s).length ≤ n := by
  unfold word
  by_cases c : 0 ≤ s ∧ s < ((l.length : Nat) : Int)
  · rw [if_pos c, wb_length]
    have hs : s.toNat < l.length := by omega
    have := h (l.getD s.toNat 0) (by rw [List.getD_eq_getElem?_getD, List.getElem?_eq_getElem hs]; exact List.getElem_mem _)
    omega
  · rw [if_neg c]; exact Nat.zero_le _
theorem wordL_len (s : Int) : (word fixL s).length ≤ 9 := word_len fixL (n := 9) (fun x hx => (fixL_ok.2.2 x hx).2) s
theorem wordD_len (s : Int) : (word fixD s).length ≤ 5 := word_len fixD (n := 5) (fun x hx => by rw [fixD_ok.2.2 x hx]; decide) s
theorem tokB_len {t : Tok} (h : isT t = true) : (tokB t).length ≤ 32 ∧ (t.2.1 = 0 → (tokB t).length ≤ 9) := by
  have h1 := wordL_len t.1
  unfold tokB
  by_cases c : t.2.1 = 0
  · rw [if_pos c]; exact ⟨by omega, fun _ => h1⟩
  · rw [if_neg c]
    refine ⟨?_, fun h => absurd h c⟩
    rw [isT_iff] at h
    obtain ⟨v, hv⟩ : ∃ v : Nat, t.2.1 = (v : Int) := ⟨t.2.1.toNat, by omega⟩
    obtain ⟨u, hu⟩ : ∃ v : Nat, t.2.2 = (v : Int) := ⟨t.2.2.toNat, by omega⟩
    rw [hv] at h c ⊢
    rw [hu] at h ⊢
    obtain ⟨g1, g2, g3, g4⟩ := lsg_ok (v := v) (by omega) (by omega)
    obtain ⟨k1, k2, k3⟩ := bsg_ok (v := u) (by omega) (by omega)
    have l1 := (lenB_lim g1 g2).2.2
    have l2 := (bkB_lim k1).2.2
    have w1 := wordL_len ((lsg (v : Int) : Nat) : Int)
    have w2 := wordD_len ((bsg (u : Int) : Nat) : Int)
    rw [List.length_append, List.length_append, List.length_append, bitsN_length, bitsN_length]
    omega
theorem toksB_len : ∀ {T : List Tok}, T.all isT = true → (toksB T).length ≤ 32 * T.length
  | [], _ => Nat.le_refl _
  | t :: T, h => by
    rw [List.all_cons, Bool.and_eq_true] at h
    unfold toksB
    rw [List.flatMap_cons, List.length_append, List.length_cons]
    have h1 := (tokB_len h.1).1
    have h2 := toksB_len h.2
    unfold toksB at h2
    omega
end Go.Ev.Zlib
namespace Go.Ev.Zlib
theorem f31_eqn (x n k : Int) : f31 (x, n, k, ()) = some (isT (x, n, k), ()) := by
  unfold f31 isT
  dsimp only
  rw [Int.fdiv_eq_ediv_of_nonneg _ (by omega)]
  by_cases h1 : n = 0
  · rw [if_pos (beq_iff_eq.2 h1), if_pos h1]
    by_cases h2 : k = 0
    · rw [if_pos (beq_iff_eq.2 h2)]
      refine congrArg (fun q => some (q, ())) ?_
      rw [Bool.eq_iff_iff, beq_iff_eq, decide_eq_true_eq]; omega
    · rw [if_neg (fun h => h2 (beq_iff_eq.1 h)), decide_eq_false (fun h => h2 h.1)]
  · rw [if_neg (fun h => h1 (beq_iff_eq.1 h)), if_neg h1]
    by_cases h2 : x = 0
    · rw [if_pos (beq_iff_eq.2 h2)]
      by_cases h3 : 3 ≤ n
      · rw [if_pos (decide_eq_true h3)]
        by_cases h4 : n ≤ 258
        · rw [if_pos (decide_eq_true h4)]
          by_cases h5 : 1 ≤ k
          · rw [if_pos (decide_eq_true h5)]
            refine congrArg (fun q => some (q, ())) ?_
            rw [Bool.eq_iff_iff, decide_eq_true_eq, decide_eq_true_eq]; omega
          · rw [if_neg (fun h => h5 (of_decide_eq_true h)), decide_eq_false (fun h => h5 h.2.2.2.1)]
        · rw [if_neg (fun h => h4 (of_decide_eq_true h)), decide_eq_false (fun h => h4 h.2.2.1)]
      · rw [if_neg (fun h => h3 (of_decide_eq_true h)), decide_eq_false (fun h => h3 h.2.1)]
    · rw [if_neg (fun h => h2 (beq_iff_eq.1 h)), decide_eq_false (fun h => h2 h.1)]
theorem f30_eqn (x n k : Int) : f30 (x, n, k, ()) = some (!(isT (x, n, k)), ()) := by
  unfold f30
  dsimp only
  rw [f31_eqn, Option.bind_some]
theorem l61_1_spec {l : List Tok} (hl : l.length < 2 ^ 60) : ∀ (k i : Nat), l.length < i + k → i ≤ l.length →
    ((l.drop i).all isT = true ∧ loopN g61_1 o61_1 b61_1 k (l, ((l.length : Nat) : Int), (i : Int), ()) = some (.inl ())) ∨
    ((l.drop i).all isT = false ∧ ∃ j : Nat, loopN g61_1 o61_1 b61_1 k (l, ((l.length : Nat) : Int), (i : Int), ()) = some (.inr (.inl ((j : Int), ())))) := by
  intro k
  induction k with
  | zero => intro i h1 h2; omega
  | succ k ih =>
    intro i h1 h2
    rw [loopN_succ]
    generalize hL : loopN g61_1 o61_1 b61_1 k = L at ih ⊢
    unfold b61_1
    dsimp only
    rcases Nat.lt_or_ge i l.length with h | h
    · rw [drop_getD h (0, 0, 0), if_pos (by rw [decide_eq_true_eq]; omega), if_pos (by omega), if_pos (by omega), Int.toNat_natCast, f30_eqn, Option.bind_some]
      dsimp only
      rw [List.all_cons, show (l.getD i (0, 0, 0)) = ((l.getD i (0, 0, 0)).1, (l.getD i (0, 0, 0)).2.1, (l.getD i (0, 0, 0)).2.2) from rfl]
      cases hT : isT ((l.getD i (0, 0, 0)).1, (l.getD i (0, 0, 0)).2.1, (l.getD i (0, 0, 0)).2.2) with
      | true =>
        rw [Bool.true_and, if_neg (by decide), Option.bind_some, Sum.elim_inl, show IntKind.wrap .i64 ((i : Int) + 1) = ((i + 1 : Nat) : Int) by rw [wrap_i64 (by omega)]; omega]
        exact ih (i + 1) (by omega) (by omega)
      | false =>
        rw [Bool.false_and, if_pos (by decide)]
        exact .inr ⟨rfl, i, rfl⟩
    · rw [List.drop_of_length_le h, if_neg (by rw [decide_eq_true_eq]; omega)]
      exact .inl ⟨rfl, rfl⟩
theorem f29_eqn {l : List Tok} (hl : l.length < 2 ^ 60) : f29 (l, ()) = some (!(l.all isT), ()) := by
  have h := l61_1_spec hl 18446744073709551616 0 (by omega) (by omega)
  rw [List.drop_zero] at h
  unfold f29 f61
  dsimp only
  rw [show l61_1 = loopN g61_1 o61_1 b61_1 18446744073709551616 from rfl]
  rcases h with ⟨h1, h2⟩ | ⟨h1, j, h2⟩
  · have h2' : loopN g61_1 o61_1 b61_1 18446744073709551616 (l, ((l.length : Nat) : Int), 0, ()) = _ := h2
    rw [h2', h1, Option.bind_some]
    rfl
  · have h2' : loopN g61_1 o61_1 b61_1 18446744073709551616 (l, ((l.length : Nat) : Int), 0, ()) = _ := h2
    rw [h2', h1, Option.bind_some, Sum.elim_inr, Sum.elim_inl, Option.bind_some]
    dsimp only
    rw [decide_eq_true (by omega)]
    rfl
theorem longT_len : longT.length = 29 := by decide +kernel
theorem behT_len : behT.length = 30 := by decide +kernel
theorem put_long {v : Nat} (h1 : 3 ≤ v) (h2 : v ≤ 258) {bits : List Bool} (hbl : bits.length ≤ 99980) {w m : Nat} {bs : List Int} (hw : Wr bits w m bs) :
    ∃ (w' m' : Nat) (bs' : List Int), f37 (longT, (v : Int), C fixL, fixL, codes fixL, sgs fixL 15, (w : Int), (m : Int), bs, ()) = some (C fixL, fixL, codes fixL, sgs fixL 15, (w' : Int), (m' : Int), bs', ()) ∧ Wr (bits ++ (word fixL ((lsg (v : Int) : Nat) : Int) ++ bitsN (v - (lenB (lsg (v : Int))).1) (lenB (lsg (v : Int))).2)) w' m' bs' := by
  obtain ⟨g1, g2, g3, g4⟩ := lsg_ok h1 h2
  have hp := (pick_spec longT (v : Int) (by rw [longT_get (by omega)]; show (3 : Int) ≤ v; omega) 28).2.1
  exact f37_eqn (P := longT) (by rw [longT_len]; omega) (by rw [longT_len]; omega) (by rw [longT_get (by omega)]; show (3 : Int) ≤ v; omega) (by omega) (by rw [longT_len]; exact longT_get (show pick longT (v : Int) 28 < 29 by omega)) (Nat.le_trans (lenB_lim g1 g2).2.2 (by omega)) g3 g4 (by rw [fixL_ok.2.1]; omega) fixL_ok.1 _ _ hbl hw
theorem put_beh {v : Nat} (h1 : 1 ≤ v) (h2 : v ≤ 32768) {bits : List Bool} (hbl : bits.length ≤ 99980) {w m : Nat} {bs : List Int} (hw : Wr bits w m bs) :
    ∃ (w' m' : Nat) (bs' : List Int), f37 (behT, (v : Int), C fixD, fixD, codes fixD, sgs fixD 15, (w : Int), (m : Int), bs, ()) = some (C fixD, fixD, codes fixD, sgs fixD 15, (w' : Int), (m' : Int), bs', ()) ∧ Wr (bits ++ (word fixD ((bsg (v : Int) : Nat) : Int) ++ bitsN (v - (bkB (bsg (v : Int))).1) (bkB (bsg (v : Int))).2)) w' m' bs' := by
  obtain ⟨g1, g3, g4⟩ := bsg_ok h1 h2
  have hp := (pick_spec behT (v : Int) (by rw [behT_get (by omega)]; show (1 : Int) ≤ v; omega) 29).2.1
  exact f37_eqn (P := behT) (by rw [behT_len]; omega) (by rw [behT_len]; omega) (by rw [behT_get (by omega)]; show (1 : Int) ≤ v; omega) (by omega) (by rw [behT_len]; exact behT_get (show pick behT (v : Int) 29 < 30 by omega)) (Nat.le_trans (bkB_lim g1).2.2 (by omega)) g3 g4 (by rw [fixD_ok.2.1]; omega) fixD_ok.1 _ _ hbl hw
theorem l21_2_spec {T : List Tok} (hT : T.all isT = true) (hTl : T.length ≤ 3000) : ∀ (k i w m : Nat) (bs : List Int) (bits : List Bool), T.length < i + k → i ≤ T.length → bits.length + 32 * (T.length - i) ≤ 99900 → Wr bits w m bs →
    ∃ (w' m' : Nat) (bs' : List Int), loopN g21_2 o21_2 b21_2 k (longT, behT, T, ((T.length : Nat) : Int), (i : Int), C fixL, fixL, codes fixL, C fixD, fixD, codes fixD, sgs fixL 15, sgs fixD 15, (w : Int), (m : Int), bs, ()) = some (.inl (C fixL, fixL, codes fixL, sgs fixL 15, (w' : Int), (m' : Int), bs', ())) ∧ Wr (bits ++ toksB (T.drop i)) w' m' bs' := by
  intro k
  induction k with
  | zero => intro i w m bs bits h1 h2; omega
  | succ k ih =>
    intro i w m bs bits h1 h2 h3 hw
    rw [loopN_succ]
    generalize hL : loopN g21_2 o21_2 b21_2 k = L at ih ⊢
    unfold b21_2
    dsimp only
    rcases Nat.lt_or_ge i T.length with h | h
    · have hm : isT (T.getD i (0, 0, 0)) = true := by
        rw [List.all_eq_true] at hT
        refine hT _ ?_
        rw [List.getD_eq_getElem?_getD, List.getElem?_eq_getElem h]
        exact List.getElem_mem _
      have hlen := tokB_len hm
      rw [drop_getD h (0, 0, 0), if_pos (by rw [decide_eq_true_eq]; omega), if_pos (by omega), if_pos (by omega), Int.toNat_natCast]
      generalize T.getD i (0, 0, 0) = t at hm hlen ⊢
      have e1 : toksB (t :: T.drop (i + 1)) = tokB t ++ toksB (T.drop (i + 1)) := by unfold toksB; rw [List.flatMap_cons]
      rw [e1, ← List.append_assoc]
      obtain ⟨tb, tl, tk⟩ := t
      rw [isT_iff] at hm
      dsimp only at hm ⊢
      have wi : IntKind.wrap .i64 ((i : Int) + 1) = ((i + 1 : Nat) : Int) := by rw [wrap_i64 (by omega)]; omega
      by_cases c : tl = 0
      · have hsmall := hlen.2 c
        obtain ⟨e, w1, m1, bs1, r1, r2, _⟩ := f38_eqn (by rw [fixL_ok.2.1]; omega) fixL_ok.1 tb (C fixL) (sgs fixL 15) (by omega) hw
        have e2 : tokB (tb, tl, tk) = word fixL tb := by unfold tokB; rw [if_pos c]
        rw [e2] at hsmall ⊢
        rw [if_pos (beq_iff_eq.2 c), if_pos rfl, if_pos rfl, r1, Option.bind_some]
        dsimp only
        rw [if_pos rfl, if_pos rfl, if_pos rfl, Option.bind_some, Sum.elim_inl, wi]
        exact ih (i + 1) w1 m1 bs1 _ (by omega) (by omega) (by rw [List.length_append]; omega) r2
      · obtain ⟨v, rfl⟩ : ∃ v : Nat, tl = (v : Int) := ⟨tl.toNat, by omega⟩
        obtain ⟨u, rfl⟩ : ∃ v : Nat, tk = (v : Int) := ⟨tk.toNat, by omega⟩
        obtain ⟨w1, m1, bs1, r1, r2⟩ := put_long (v := v) (by omega) (by omega) (by omega) hw
        have hsmall := hlen.1
        have e2 : tokB (tb, (v : Int), (u : Int)) = (word fixL ((lsg (v : Int) : Nat) : Int) ++ bitsN (v - (lenB (lsg (v : Int))).1) (lenB (lsg (v : Int))).2) ++ (word fixD ((bsg (u : Int) : Nat) : Int) ++ bitsN (u - (bkB (bsg (u : Int))).1) (bkB (bsg (u : Int))).2) := by
          unfold tokB
          rw [if_neg c]
          dsimp only
          rw [Int.toNat_natCast, Int.toNat_natCast]
        rw [e2, List.length_append] at hsmall
        obtain ⟨w2, m2, bs2, r3, r4⟩ := put_beh (v := u) (by omega) (by omega) (by rw [List.length_append]; omega) r2
        rw [if_neg (fun h => c (beq_iff_eq.1 h)), if_pos rfl, if_pos rfl, r1, Option.bind_some]
        dsimp only
        rw [if_pos rfl, if_pos rfl, r3, Option.bind_some]
        dsimp only
        rw [if_pos rfl, if_pos rfl, if_pos rfl, Option.bind_some, Sum.elim_inl, wi, e2, ← List.append_assoc]
        exact ih (i + 1) w2 m2 bs2 _ (by omega) (by omega) (by rw [List.length_append, List.length_append]; omega) r4
    · rw [List.drop_of_length_le h, if_neg (by rw [decide_eq_true_eq]; omega), if_pos rfl, if_pos rfl]
      refine ⟨w, m, bs, rfl, ?_⟩
      have e0 : toksB ([] : List Tok) = [] := rfl
      rw [e0, List.append_nil]
      exact hw
def putB (T : List Tok) : List Bool := [true, true, false] ++ (toksB T ++ word fixL 256)
structure Blk (T : List Tok) (B : List Int) : Prop where
  b : IsB B
  len : B.length = ((putB T).length + 7) / 8
  val : valB B = nb (putB T)
  lim : (putB T).length ≤ 100000
theorem f21_good {T : List Tok} (hT : T.all isT = true) (hTl : T.length ≤ 3000) : ∃ B, f21 (T, ()) = some (0, B, ()) ∧ Blk T B := by
  obtain ⟨w0, m0, bs0, r0, s0⟩ := Wr.nil.put (by decide) (n := 3) (v := 3) (by decide) (by decide)
  have r0' : f36 (3, 3, 0, 0, [], ()) = _ := r0
  have e0 : ([] : List Bool) ++ bitsN 3 3 = [true, true, false] := rfl
  rw [e0] at s0
  have htl := toksB_len hT
  obtain ⟨w1, m1, bs1, r1, s1⟩ := l21_2_spec hT hTl FU 0 w0 m0 bs0 [true, true, false] (by unfold FU; omega) (Nat.zero_le _) (by rw [Nat.sub_zero]; show 3 + _ ≤ _; omega) s0
  rw [List.drop_zero] at s1
  have hl3 : ([true, true, false] : List Bool).length = 3 := rfl
  obtain ⟨e, w2, m2, bs2, r2, s2, _⟩ := f38_eqn (by rw [fixL_ok.2.1]; omega) fixL_ok.1 256 (C fixL) (sgs fixL 15) (by rw [List.length_append, hl3]; omega) s1
  have hlw := wordL_len 256
  obtain ⟨B, r3, b1, b2, b3⟩ := s2.bytes (by rw [List.length_append, List.length_append, hl3]; omega)
  have hpb : [true, true, false] ++ toksB T ++ word fixL 256 = putB T := by unfold putB; rw [List.append_assoc]
  rw [hpb] at b2 b3
  have h31 : f34 ([5], 32, ()) = some (fixD, ()) := f34_eqn 5 (n := 32) (by decide) (by decide)
  have h5 : List.take 1 (List.drop 0 (List.set (List.replicate 1 (0 : Int)) 0 5)) = [5] := rfl
  have h28 : f35 () = some (0, 0, [], ()) := rfl
  refine ⟨B, ?_, b1, b2, b3, by rw [← hpb, List.length_append, List.length_append, hl3]; omega⟩
  unfold f21
  dsimp only
  rw [f29_eqn (by omega), hT, Option.bind_some]
  dsimp only
  rw [if_neg (by decide)]
  unfold b21_1
  dsimp only
  rw [f33_fix, Option.bind_some]
  dsimp only
  rw [full, f32_eqn, if_pos errM_fixL, Option.bind_some, Sum.elim_inr]
  dsimp only
  rw [if_pos rfl, Option.bind_some, Sum.elim_inr, Sum.elim_inl]
  dsimp only
  rw [if_neg (show ¬ (((0 : Int) != 0) = true) by decide), h5, h31, Option.bind_some]
  dsimp only
  rw [full, f32_eqn, if_pos errM_fixD, Option.bind_some, Sum.elim_inr]
  dsimp only
  rw [if_neg (show ¬ (((0 : Int) != 0) = true) by decide), h28, Option.bind_some]
  dsimp only
  rw [if_pos rfl, r0', Option.bind_some, f39_long, Option.bind_some, f40_beh, Option.bind_some]
  dsimp only
  rw [full, full, if_pos rfl, if_pos rfl, if_pos rfl, show l21_2 = loopN g21_2 o21_2 b21_2 FU from rfl]
  have r1' : loopN g21_2 o21_2 b21_2 FU (longT, behT, T, ((T.length : Nat) : Int), 0, C fixL, fixL, codes fixL, C fixD, fixD, codes fixD, sgs fixL 15, sgs fixD 15, (w0 : Int), (m0 : Int), bs0, ()) = _ := r1
  rw [r1', Option.bind_some, Sum.elim_inl]
  dsimp only
  rw [if_pos rfl, if_pos rfl, r2, Option.bind_some]
  dsimp only
  rw [if_pos rfl, r3, Option.bind_some]
  dsimp only
  rw [if_pos rfl]
end Go.Ev.Zlib
namespace Go.Ev.Zlib
theorem err_of {l : List Int} (h : errM l = 0) : err l = 0 := by
  unfold errM at h
  by_cases c : err l = 0
  · exact c
  · rw [if_neg c] at h; exact h
end Go.Ev.Zlib
namespace Go.Ev.Zlib
def runF (b : List Int) (at' back : Nat) : Nat → Nat → Nat
  | 0, n => n
  | r + 1, n => if at' + n < b.length ∧ b.getD (at' + n) 0 = b.getD (at' + n - back) 0 then runF b at' back r (n + 1) else n
def runN (b : List Int) (at' back : Nat) : Nat := runF b at' back 258 0
theorem runF_spec (b : List Int) (at' back : Nat) : ∀ (r n : Nat), (∀ j, j < n → at' + j < b.length ∧ b.getD (at' + j) 0 = b.getD (at' + j - back) 0) →
    (n ≤ runF b at' back r n ∧ runF b at' back r n ≤ n + r) ∧ (∀ j, j < runF b at' back r n → at' + j < b.length ∧ b.getD (at' + j) 0 = b.getD (at' + j - back) 0) ∧
    (runF b at' back r n = n + r ∨ ¬ (at' + runF b at' back r n < b.length ∧ b.getD (at' + runF b at' back r n) 0 = b.getD (at' + runF b at' back r n - back) 0))
  | 0, n, h => ⟨⟨Nat.le_refl _, Nat.le_refl _⟩, h, .inl rfl⟩
  | r + 1, n, h => by
    unfold runF
    by_cases c : at' + n < b.length ∧ b.getD (at' + n) 0 = b.getD (at' + n - back) 0
    · rw [if_pos c]
      obtain ⟨⟨h1, h2⟩, h3, h4⟩ := runF_spec b at' back r (n + 1) (fun j hj => by
        by_cases e : j = n
        · rw [e]; exact c
        · exact h j (by omega))
      exact ⟨⟨by omega, by omega⟩, h3, h4.imp (fun e => by omega) id⟩
    · rw [if_neg c]
      exact ⟨⟨Nat.le_refl _, by omega⟩, h, .inr c⟩
theorem runN_le (b : List Int) (at' back : Nat) : runN b at' back ≤ 258 := by
  have := (runF_spec b at' back 258 0 (fun j hj => by omega)).1.2
  unfold runN; omega
theorem runN_all (b : List Int) (at' back : Nat) : ∀ j, j < runN b at' back → at' + j < b.length ∧ b.getD (at' + j) 0 = b.getD (at' + j - back) 0 :=
  (runF_spec b at' back 258 0 (fun j hj => by omega)).2.1
theorem runN_fit (b : List Int) (at' back : Nat) (h : at' ≤ b.length) : at' + runN b at' back ≤ b.length := by
  rcases Nat.eq_zero_or_pos (runN b at' back) with h0 | h0
  · omega
  · have := (runN_all b at' back (runN b at' back - 1) (by omega)).1
    omega
theorem l28_1_spec {b : List Int} (hl : b.length ≤ 10000000) {at' back : Nat} (hat : at' ≤ b.length) (hb : 1 ≤ back ∧ back ≤ at') : ∀ (r k n : Nat), n + r = 258 → r < k →
    loopN g28_1 o28_1 b28_1 k (b, (at' : Int), (back : Int), (n : Int), ()) = some (.inl (((runF b at' back r n : Nat) : Int), ())) := by
  intro r
  induction r with
  | zero =>
    intro k n hn hk
    obtain ⟨k, rfl⟩ : ∃ j, k = j + 1 := ⟨k - 1, by omega⟩
    rw [loopN_succ]
    generalize loopN g28_1 o28_1 b28_1 k = L
    unfold b28_1
    dsimp only
    rw [if_neg (by rw [decide_eq_true_eq]; omega)]
    rfl
  | succ r ih =>
    intro k n hn hk
    obtain ⟨k, rfl⟩ : ∃ j, k = j + 1 := ⟨k - 1, by omega⟩
    have ih := ih k (n + 1) (by omega) (by omega)
    rw [loopN_succ]
    generalize hL : loopN g28_1 o28_1 b28_1 k = L at ih ⊢
    have w1 : IntKind.wrap .i64 ((at' : Int) + (n : Int)) = ((at' + n : Nat) : Int) := by rw [wrap_i64 (by omega)]; omega
    have w2 : IntKind.wrap .i64 (((at' + n : Nat) : Int) - (back : Int)) = ((at' + n - back : Nat) : Int) := by rw [wrap_i64 (by omega)]; omega
    have w3 : IntKind.wrap .i64 ((n : Int) + 1) = ((n + 1 : Nat) : Int) := by rw [wrap_i64 (by omega)]; omega
    unfold b28_1
    dsimp only
    rw [w1, w2, w3]
    rw [if_pos (by rw [decide_eq_true_eq]; omega)]
    unfold runF
    by_cases c1 : at' + n < b.length
    · rw [if_pos (by rw [decide_eq_true_eq]; omega), if_pos (by omega), if_pos (by omega), if_pos (by omega), if_pos (by omega), Int.toNat_natCast, Int.toNat_natCast]
      by_cases c2 : b.getD (at' + n) 0 = b.getD (at' + n - back) 0
      · rw [if_pos (show at' + n < b.length ∧ b.getD (at' + n) 0 = b.getD (at' + n - back) 0 from ⟨c1, c2⟩), if_pos (by rw [beq_iff_eq]; exact c2), Option.bind_some, Sum.elim_inl]
        exact ih
      · rw [if_neg (show ¬ (at' + n < b.length ∧ b.getD (at' + n) 0 = b.getD (at' + n - back) 0) from fun h => c2 h.2), if_neg (by rw [beq_iff_eq]; exact c2)]
        rfl
    · rw [if_neg (by rw [decide_eq_true_eq]; omega), if_neg (fun h => c1 h.1)]
      rfl
theorem f28_eqn {b : List Int} (hl : b.length ≤ 10000000) {at' back : Nat} (hat : at' ≤ b.length) (hb : 1 ≤ back ∧ back ≤ at') : f28 (b, (at' : Int), (back : Int), ()) = some (((runN b at' back : Nat) : Int), ()) := by
  have h := l28_1_spec hl hat hb 258 18446744073709551616 0 rfl (by omega)
  unfold f28
  dsimp only
  have h' : loopN g28_1 o28_1 b28_1 18446744073709551616 (b, (at' : Int), (back : Int), 0, ()) = _ := h
  rw [show l28_1 = loopN g28_1 o28_1 b28_1 18446744073709551616 from rfl]
  generalize loopN g28_1 o28_1 b28_1 18446744073709551616 (b, (at' : Int), (back : Int), 0, ()) = X at h' ⊢
  subst h'
  rfl
structure Best (b : List Int) (at' L K : Nat) : Prop where
  is : (L = 0 ∧ K = 0) ∨ (1 ≤ K ∧ K ≤ at' ∧ K ≤ 1024 ∧ L = runN b at' K ∧ 0 < L)
  top : ∀ k, 1 ≤ k → k ≤ at' → k ≤ 1024 → runN b at' k ≤ L
  near : ∀ k, 1 ≤ k → k < K → runN b at' k < L
theorem l20_2_spec {b : List Int} (hl : b.length ≤ 10000000) {at' : Nat} (hat : at' ≤ b.length) (out : List (Int × Int × Int)) : ∀ (k back L K : Nat), 1026 < back + k → 1 ≤ back → back ≤ 1025 →
    ((L = 0 ∧ K = 0) ∨ (1 ≤ K ∧ K < back ∧ K ≤ at' ∧ K ≤ 1024 ∧ L = runN b at' K ∧ 0 < L)) → (∀ j, 1 ≤ j → j < back → j ≤ at' → runN b at' j ≤ L) → (∀ j, 1 ≤ j → j < K → runN b at' j < L) →
    ∃ L' K' : Nat, Best b at' L' K' ∧ loopN g20_2 o20_2 b20_2 k (b, (at' : Int), (back : Int), out, 0, (L : Int), (K : Int), ()) = some (.inl (b, (at' : Int), out, 0, (L' : Int), (K' : Int), ())) := by
  intro k
  induction k with
  | zero => intro back L K h1 h2 h3; omega
  | succ k ih =>
    intro back L K h1 h2 h3 h4 h5 h6
    rw [loopN_succ]
    generalize hLL : loopN g20_2 o20_2 b20_2 k = LL at ih ⊢
    have hM : min ((at' : Nat) : Int) 1024 = ((min at' 1024 : Nat) : Int) := by omega
    unfold b20_2
    dsimp only
    rw [hM]
    by_cases c1 : back ≤ min at' 1024
    · rw [if_pos (by rw [decide_eq_true_eq]; omega)]
      by_cases c2 : L < 258
      · rw [if_pos (by rw [decide_eq_true_eq]; omega), f28_eqn hl hat ⟨h2, by omega⟩, Option.bind_some]
        dsimp only
        have w3 : IntKind.wrap .i64 ((back : Int) + 1) = ((back + 1 : Nat) : Int) := by rw [wrap_i64 (by omega)]; omega
        rw [w3]
        by_cases c3 : L < runN b at' back
        · rw [if_pos (by rw [decide_eq_true_eq]; omega), if_pos rfl, Option.bind_some, Sum.elim_inl]
          refine ih (back + 1) (runN b at' back) back (by omega) (by omega) (by omega) (.inr ⟨h2, by omega, by omega, by omega, rfl, by omega⟩) (fun j hj1 hj2 hj3 => ?_) (fun j hj1 hj2 => ?_)
          · by_cases e : j = back
            · rw [e]; exact Nat.le_refl _
            · have := h5 j hj1 (by omega) hj3; omega
          · have := h5 j hj1 hj2 (by omega); omega
        · rw [if_neg (by rw [decide_eq_true_eq]; omega), if_pos rfl, Option.bind_some, Sum.elim_inl]
          refine ih (back + 1) L K (by omega) (by omega) (by omega) (h4.imp id (fun h => ⟨h.1, by omega, h.2.2⟩)) (fun j hj1 hj2 hj3 => ?_) h6
          by_cases e : j = back
          · rw [e]; omega
          · exact h5 j hj1 (by omega) hj3
      · rw [if_neg (by rw [decide_eq_true_eq]; omega), if_pos rfl]
        refine ⟨L, K, ⟨h4.imp id (fun h => ⟨h.1, h.2.2⟩), fun j _ _ _ => ?_, h6⟩, rfl⟩
        have := runN_le b at' j; omega
    · rw [if_neg (by rw [decide_eq_true_eq]; omega), if_pos rfl]
      refine ⟨L, K, ⟨h4.imp id (fun h => ⟨h.1, h.2.2⟩), fun j hj1 hj2 hj3 => h5 j hj1 (by omega) hj2, h6⟩, rfl⟩
def Good (b : List Int) (at' : Nat) (t : Int × Int × Int) : Prop := ∃ L K : Nat, Best b at' L K ∧ ((L < 3 ∧ t = (b.getD at' 0, 0, 0)) ∨ (3 ≤ L ∧ t = (0, (L : Int), (K : Int))))
inductive Toks (b : List Int) : Nat → List (Int × Int × Int) → Prop
  | nil : Toks b b.length []
  | cons {at' : Nat} {t : Int × Int × Int} {l : List (Int × Int × Int)} (h : at' < b.length) (g : Good b at' t) (r : Toks b (at' + max t.2.1.toNat 1) l) : Toks b at' (t :: l)
theorem l20_1_spec {b : List Int} (hB : IsB b) (hl : b.length ≤ 10000000) : ∀ (k at' : Nat) (out : List (Int × Int × Int)), b.length < at' + k → at' ≤ b.length → out.length ≤ at' →
    ∃ T, Toks b at' T ∧ loopN g20_1 o20_1 b20_1 k (b, (at' : Int), out, ()) = some (.inl (out ++ T, ())) := by
  intro k
  induction k with
  | zero => intro at' out h1 h2; omega
  | succ k ih =>
    intro at' out h1 h2 h3
    rw [loopN_succ]
    generalize hLL : loopN g20_1 o20_1 b20_1 k = LL at ih ⊢
    unfold b20_1
    dsimp only
    rcases Nat.lt_or_ge at' b.length with h | h
    · obtain ⟨L, K, hBst, hrun⟩ := l20_2_spec hl h2 out 18446744073709551616 1 0 0 (by omega) (by omega) (by omega) (.inl ⟨rfl, rfl⟩) (fun j h1 h2 => by omega) (fun j h1 h2 => by omega)
      have hrun' : loopN g20_2 o20_2 b20_2 18446744073709551616 (b, (at' : Int), 1, out, 0, 0, 0, ()) = _ := hrun
      rw [if_pos (by rw [decide_eq_true_eq]; omega), if_pos rfl, show l20_2 = loopN g20_2 o20_2 b20_2 18446744073709551616 from rfl]
      generalize loopN g20_2 o20_2 b20_2 18446744073709551616 (b, (at' : Int), 1, out, 0, 0, 0, ()) = X at hrun' ⊢
      subst hrun'
      rw [Option.bind_some, Sum.elim_inl]
      dsimp only
      have e1 : ∀ v : Int × Int × Int, List.take 1 (List.drop 0 (List.set (List.replicate 1 ((0 : Int), (0 : Int), (0 : Int))) 0 v)) = [v] := fun v => rfl
      by_cases c : L < 3
      · have hm : b.getD at' 0 ∈ b := by
          rw [List.getD_eq_getElem?_getD, List.getElem?_eq_getElem h]
          exact List.getElem_mem _
        obtain ⟨x0, x1⟩ := hB _ hm
        rw [if_pos (by rw [decide_eq_true_eq]; omega), if_pos (by omega), if_pos (by omega), Int.toNat_natCast, wrap_i64 (n := b.getD at' 0) (by omega), e1, List.drop_zero, List.take_length, if_pos (by simp only [List.length_singleton]; omega), if_pos rfl, Option.bind_some, Sum.elim_inl,
          show IntKind.wrap .i64 ((at' : Int) + 1) = ((at' + 1 : Nat) : Int) by rw [wrap_i64 (by omega)]; omega]
        obtain ⟨T, t1, t2⟩ := ih (at' + 1) (out ++ [(b.getD at' 0, 0, 0)]) (by omega) (by omega) (by simp; omega)
        exact ⟨(b.getD at' 0, 0, 0) :: T, .cons h ⟨L, K, hBst, .inl ⟨c, rfl⟩⟩ t1, by rw [t2, List.append_assoc]; rfl⟩
      · have hfit : at' + L ≤ b.length := by
          rcases hBst.is with ⟨h0, _⟩ | ⟨_, _, _, h0, _⟩
          · omega
          · rw [h0]; exact runN_fit b at' K h2
        rw [if_neg (by rw [decide_eq_true_eq]; omega), e1, List.drop_zero, List.take_length, if_pos (by simp only [List.length_singleton]; omega), if_pos rfl, Option.bind_some, Sum.elim_inl,
          show IntKind.wrap .i64 ((at' : Int) + max (L : Int) 1) = ((at' + max L 1 : Nat) : Int) by rw [wrap_i64 (by omega)]; omega]
        obtain ⟨T, t1, t2⟩ := ih (at' + max L 1) (out ++ [(0, (L : Int), (K : Int))]) (by omega) (by omega) (by simp; omega)
        exact ⟨(0, (L : Int), (K : Int)) :: T, .cons h ⟨L, K, hBst, .inr ⟨by omega, rfl⟩⟩ (by rw [Int.toNat_natCast]; exact t1), by rw [t2, List.append_assoc]; rfl⟩
    · have he : at' = b.length := by omega
      rw [if_neg (by rw [decide_eq_true_eq]; omega), if_pos rfl]
      exact ⟨[], by rw [he]; exact .nil, by rw [List.append_nil]; rfl⟩
theorem f20_eqn {b : List Int} (hB : IsB b) (hl : b.length ≤ 1048576) : ∃ T, Toks b 0 T ∧ f20 (b, ()) = some (0, T, ()) := by
  obtain ⟨T, t1, t2⟩ := l20_1_spec hB (by omega) 18446744073709551616 0 [] (by omega) (by omega) (Nat.zero_le _)
  refine ⟨T, t1, ?_⟩
  rw [List.nil_append] at t2
  unfold f20
  dsimp only
  have t2' : loopN g20_1 o20_1 b20_1 18446744073709551616 (b, 0, [], ()) = _ := t2
  rw [if_neg (by rw [decide_eq_true_eq]; omega), show l20_1 = loopN g20_1 o20_1 b20_1 18446744073709551616 from rfl]
  generalize loopN g20_1 o20_1 b20_1 18446744073709551616 (b, 0, [], ()) = X at t2' ⊢
  subst t2'
  rw [Option.bind_some, Sum.elim_inl]
  dsimp only
  rw [if_pos rfl]
end Go.Ev.Zlib
namespace Go.Ev.Zlib
theorem Toks.len' {b : List Int} {at' : Nat} {T : List Tok} (h : Toks b at' T) : at' + T.length ≤ b.length := by
  induction h with
  | nil => simp
  | cons h g r ih => rw [List.length_cons]; omega
theorem Toks.isT {b : List Int} (hB : IsB b) {at' : Nat} {T : List Tok} (h : Toks b at' T) : T.all Zlib.isT = true := by
  induction h with
  | nil => rfl
  | @cons at' t l h g r ih =>
    rw [List.all_cons, ih, Bool.and_true, isT_iff]
    obtain ⟨L, K, gb, ⟨g1, g2⟩ | ⟨g1, g2⟩⟩ := g
    · rw [g2]
      have := hB.get at'
      exact .inl ⟨rfl, rfl, by dsimp only; omega, by dsimp only; omega⟩
    · rw [g2]
      rcases gb.is with ⟨a1, a2⟩ | ⟨a1, a2, a3, a4, a5⟩
      · omega
      · have := runN_le b at' K
        exact .inr ⟨rfl, by dsimp only; omega, by dsimp only; omega, by dsimp only; omega, by dsimp only; omega⟩
theorem Blk.small {T : List Tok} {B : List Int} (h : Blk T B) : B.length ≤ 13000 := by
  have := h.len
  have := h.lim
  omega
theorem deflate_eqn {b : List Int} (hB : IsB b) (hl : b.length ≤ 3000) : ∃ T B, Toks b 0 T ∧ f20 (b, ()) = some (0, T, ()) ∧ f21 (T, ()) = some (0, B, ()) ∧ f15 (b, ()) = some (0, B, ()) ∧ Blk T B ∧ T.all isT = true ∧ T.length ≤ 3000 := by
  obtain ⟨T, h1, h2⟩ := f20_eqn hB (by omega)
  have hT := h1.isT hB
  have hTl := h1.len'
  obtain ⟨B, h3, h4⟩ := f21_good hT (by omega)
  refine ⟨T, B, h1, h2, h3, ?_, h4, hT, by omega⟩
  unfold f15
  dsimp only
  rw [h2, Option.bind_some]
  dsimp only
  rw [if_neg (by decide), full, h3, Option.bind_some]
  dsimp only
  rw [if_pos rfl]
end Go.Ev.Zlib
