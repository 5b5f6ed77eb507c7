/- Part of a proof about the given program: HuffAll. -/
import Derived.Test.YtcpkgneomhpipaaArr
import Derived.Test.YtcpkgneomhpipaaF
namespace Go.Ev.Huff

/-! ## Lengths: how many of each, and their share -/
def cnt (l : List Int) (n : Nat) : Nat := l.count (n : Int)
def shr : List Int → Nat
  | [] => 0
  | x :: l => (if 0 < x then 2 ^ (15 - x.toNat) else 0) + shr l
def Ok (l : List Int) : Prop := ∀ x ∈ l, 0 ≤ x ∧ x ≤ 15
theorem shr_append : ∀ a b : List Int, shr (a ++ b) = shr a + shr b
  | [], b => by simp [shr]
  | x :: a, b => by simp only [List.cons_append, shr, shr_append a b]; omega
theorem shr_le : ∀ l : List Int, shr l ≤ 32768 * l.length
  | [] => by simp [shr]
  | x :: l => by
    have := shr_le l
    have h : 2 ^ (15 - x.toNat) ≤ 32768 := by
      have : (2 : Nat) ^ (15 - x.toNat) ≤ 2 ^ 15 := Nat.pow_le_pow_right (by omega) (by omega)
      simpa using this
    simp only [shr, List.length_cons]
    split <;> omega
theorem shr_take_succ {l : List Int} {i : Nat} (h : i < l.length) : shr (l.take (i + 1)) = shr (l.take i) + (if 0 < l.getD i 0 then 2 ^ (15 - (l.getD i 0).toNat) else 0) := by
  rw [List.take_add_one, List.getElem?_eq_getElem h, shr_append]
  simp [shr, List.getD_eq_getElem?_getD, h]
theorem shr_take_le (l : List Int) (i : Nat) : shr (l.take i) ≤ shr l := by
  have : shr l = shr (l.take i) + shr (l.drop i) := by rw [← shr_append, List.take_append_drop]
  omega
theorem not_ok {l : List Int} {i : Nat} (h : i < l.length) (hx : ¬ (0 ≤ l.getD i 0 ∧ l.getD i 0 ≤ 15)) : ¬ Ok l := fun hk => by
  refine hx (hk _ ?_)
  rw [List.getD_eq_getElem?_getD, List.getElem?_eq_getElem h]
  exact List.getElem_mem _
theorem Ok.get {l : List Int} (h : Ok l) (i : Nat) : 0 ≤ l.getD i 0 ∧ l.getD i 0 ≤ 15 := by
  rw [List.getD_eq_getElem?_getD]
  rcases Nat.lt_or_ge i l.length with hi | hi
  · rw [List.getElem?_eq_getElem hi]; exact h _ (List.getElem_mem _)
  · rw [List.getElem?_eq_none hi]; simp
/-- What is told of lengths. -/
noncomputable def err (l : List Int) : Int := if 320 < l.length then 1 else open Classical in if Ok l then (if 32768 < shr l then 4 else 0) else 1
def C (l : List Int) : List Int := tab 16 (fun n => if n = 0 then 0 else (cnt l n : Int))

theorem fdiv32768 {x : Int} (h : 0 ≤ x ∧ x ≤ 15) : Int.fdiv 32768 (2 ^ (Min.min (Int.toNat x) 64)) = ((2 ^ (15 - x.toNat) : Nat) : Int) := by
  obtain ⟨n, rfl⟩ := Int.eq_ofNat_of_zero_le h.1
  have hn : n ≤ 15 := by omega
  have key : ∀ n : Nat, n ≤ 15 → Int.fdiv 32768 (2 ^ (Min.min (Int.toNat ((n : Nat) : Int)) 64)) = ((2 ^ (15 - (Int.toNat ((n : Nat) : Int))) : Nat) : Int) := by decide
  exact key n hn

theorem l27_spec {l : List Int} (hl : l.length ≤ 320) (res : List Int) : ∀ (k i : Nat), l.length < i + k → i ≤ l.length → (∀ j, j < i → 0 ≤ l.getD j 0 ∧ l.getD j 0 ≤ 15) →
    (Ok l ∧ loopN g27_1 o27_1 b27_1 k ((shr (l.take i) : Int), l, (l.length : Int), (i : Int), res, C (l.take i), ()) = some (.inl ((shr l : Int), res, C l, ()))) ∨
    (¬ Ok l ∧ ∃ c, loopN g27_1 o27_1 b27_1 k ((shr (l.take i) : Int), l, (l.length : Int), (i : Int), res, C (l.take i), ()) = some (.inr (.inl (1, c, ())))) := by
  intro k
  induction k with
  | zero => intro i h1 h2; omega
  | succ k ih =>
    intro i h1 h2 hb
    rw [loopN_succ]
    generalize hL : loopN g27_1 o27_1 b27_1 k = L at ih ⊢
    unfold b27_1
    simp only [Int.toNat_natCast]
    rcases Nat.lt_or_ge i l.length with h | h
    · rw [if_pos (by simp; omega), if_pos (by omega), if_pos (by omega)]
      by_cases hx : 0 ≤ l.getD i 0 ∧ l.getD i 0 ≤ 15
      · rw [if_neg (by rw [decide_eq_true_eq]; exact Int.not_lt.2 hx.1), if_neg (by rw [decide_eq_true_eq]; exact Int.not_lt.2 hx.2)]
        have hs1 := shr_take_succ h
        have hs2 := shr_le (l.take (i + 1))
        have hlt : (l.take (i + 1)).length ≤ 320 := by rw [List.length_take]; omega
        have hb' : ∀ j, j < i + 1 → 0 ≤ l.getD j 0 ∧ l.getD j 0 ≤ 15 := fun j hj => by
          by_cases e : j = i
          · rw [e]; exact hx
          · exact hb j (by omega)
        have e3 : IntKind.wrap IntKind.i64 ((i : Int) + 1) = ((i + 1 : Nat) : Int) := by rw [wrap_i64 (by omega)]; omega
        have hI := ih (i + 1) (by omega) (by omega) hb'
        obtain ⟨n, hn⟩ := Int.eq_ofNat_of_zero_le hx.1
        have hcl : cnt (l.take i) n ≤ 320 := Nat.le_trans List.count_le_length (by rw [List.length_take]; omega)
        by_cases hp : 0 < l.getD i 0
        · have hx16 : l.getD i 0 < 16 := by omega
          rw [if_pos (by rw [decide_eq_true_eq]; exact hp), if_pos hx.1, if_pos hx16, if_pos hx.1, if_pos hx16, if_neg (Int.not_lt.2 hx.1)]
          simp only [Option.bind_some, Sum.elim_inl]
          rw [if_pos hp] at hs1
          rw [fdiv32768 hx, e3]
          have e1 : IntKind.wrap IntKind.i64 ((shr (l.take i) : Int) + ((2 ^ (15 - (l.getD i 0).toNat) : Nat) : Int)) = ((shr (l.take (i + 1)) : Nat) : Int) := by
            rw [hs1]
            generalize (2 : Nat) ^ (15 - (l.getD i 0).toNat) = p at hs1
            rw [wrap_i64 (by omega)]; omega
          have e2 : (C (l.take i)).set (l.getD i 0).toNat (IntKind.wrap IntKind.i64 ((C (l.take i)).getD (l.getD i 0).toNat 0 + 1)) = C (l.take (i + 1)) := by
            unfold C
            rw [hn, Int.toNat_natCast, tab_get (by omega), tab_set, if_neg (by omega), wrap_i64 (by omega)]
            refine tab_ext fun j hj => ?_
            by_cases ej : j = n
            · subst ej
              rw [if_pos rfl, if_neg (by omega)]
              unfold cnt
              rw [count_take_succ h, hn, if_pos rfl]; omega
            · rw [if_neg ej]
              by_cases e0 : j = 0
              · rw [if_pos e0, if_pos e0]
              · rw [if_neg e0, if_neg e0]
                unfold cnt
                rw [count_take_succ h, hn, if_neg (by omega)]; omega
          rw [e1, e2]
          exact hI
        · rw [if_neg (by rw [decide_eq_true_eq]; exact hp)]
          simp only [Option.bind_some, Sum.elim_inl]
          rw [if_neg hp, Nat.add_zero] at hs1
          rw [e3]
          have e2 : C (l.take (i + 1)) = C (l.take i) := by
            unfold C
            refine tab_ext fun j hj => ?_
            by_cases e0 : j = 0
            · rw [if_pos e0, if_pos e0]
            · rw [if_neg e0, if_neg e0]
              unfold cnt
              rw [count_take_succ h, if_neg (by omega)]; omega
          rw [hs1, e2] at hI
          exact hI
      · refine .inr ⟨not_ok h hx, C (l.take i), ?_⟩
        by_cases h0 : l.getD i 0 < 0
        · rw [if_pos (by rw [decide_eq_true_eq]; exact h0)]; rfl
        · have h15 : 15 < l.getD i 0 := by omega
          rw [if_neg (by rw [decide_eq_true_eq]; exact h0), if_pos (by rw [decide_eq_true_eq]; exact h15)]; rfl
    · rw [if_neg (by simp; omega)]
      have : i = l.length := by omega
      subst this
      rw [List.take_length]
      refine .inl ⟨fun x hx => ?_, rfl⟩
      obtain ⟨j, hj, rfl⟩ := List.mem_iff_getElem.1 hx
      have := hb j hj
      rwa [List.getD_eq_getElem?_getD, List.getElem?_eq_getElem hj] at this
end Go.Ev.Huff
namespace Go.Ev.Huff

theorem f27_eqn (l : List Int) : ∃ c, f27 (l, ()) = some (c, err l, ()) ∧ (err l = 0 → c = C l ∧ l.length ≤ 320 ∧ Ok l ∧ shr l ≤ 32768) := by
  unfold f27 err
  simp only []
  by_cases hl : 320 < l.length
  · rw [if_pos (by rw [decide_eq_true_eq]; omega), if_pos hl]
    exact ⟨_, rfl, fun h => by cases h⟩
  · rw [if_neg (by rw [decide_eq_true_eq]; omega), if_neg hl]
    have h := l27_spec (l := l) (by omega) (List.replicate 16 0) 18446744073709551616 0 (by omega) (by omega) (fun j hj => by omega)
    have hC : C [] = List.replicate 16 0 := by decide
    rw [List.take_zero, hC] at h
    rw [show l27_1 = loopN g27_1 o27_1 b27_1 18446744073709551616 from rfl]
    rcases h with ⟨hk, h1⟩ | ⟨hk, c, h1⟩
    · have h1' : loopN g27_1 o27_1 b27_1 18446744073709551616 (0, l, (l.length : Int), 0, List.replicate 16 0, List.replicate 16 0, ()) = _ := h1
      rw [h1', if_pos hk]
      simp only [Option.bind_some, Sum.elim_inl]
      by_cases hs : 32768 < shr l
      · rw [if_pos (by rw [decide_eq_true_eq]; omega), if_pos hs]
        exact ⟨_, rfl, fun h => by cases h⟩
      · rw [if_neg (by rw [decide_eq_true_eq]; omega), if_neg hs]
        exact ⟨_, rfl, fun _ => ⟨rfl, by omega, hk, by omega⟩⟩
    · have h1' : loopN g27_1 o27_1 b27_1 18446744073709551616 (0, l, (l.length : Int), 0, List.replicate 16 0, List.replicate 16 0, ()) = _ := h1
      rw [h1', if_neg hk]
      exact ⟨_, rfl, fun h => by cases h⟩

theorem l36_spec (n : Nat) (hn : n ≤ 15) : ∀ (k i : Nat), n < i + k → i ≤ n → loopN g36_1 o36_1 b36_1 k ((n : Int), ((2 ^ i : Nat) : Int), (i : Int), ()) = some (.inl (((2 ^ n : Nat) : Int), ())) := by
  intro k
  induction k with
  | zero => intro i h1 h2; omega
  | succ k ih =>
    intro i h1 h2
    rw [loopN_succ]
    generalize hL : loopN g36_1 o36_1 b36_1 k = L at ih ⊢
    unfold b36_1
    simp only []
    rcases Nat.lt_or_ge i n with h | h
    · rw [if_pos (by rw [decide_eq_true_eq]; omega)]
      simp only [Option.bind_some, Sum.elim_inl]
      have hp : (2 : Nat) ^ i ≤ 32768 := by
        have : (2 : Nat) ^ i ≤ 2 ^ 15 := Nat.pow_le_pow_right (by omega) (by omega)
        simpa using this
      have e1 : IntKind.wrap IntKind.i64 (2 * ((2 ^ i : Nat) : Int)) = ((2 ^ (i + 1) : Nat) : Int) := by
        rw [Nat.pow_succ]
        generalize (2 : Nat) ^ i = p at hp
        rw [wrap_i64 (by omega)]; omega
      rw [e1, wrap_i64 (by omega), show ((i : Int) + 1) = ((i + 1 : Nat) : Int) by omega]
      exact ih (i + 1) (by omega) (by omega)
    · rw [if_neg (by rw [decide_eq_true_eq]; omega)]
      have : i = n := by omega
      subst this
      rfl
theorem f36_eqn {n : Nat} (hn : n ≤ 15) : f36 ((n : Int), ()) = some (((2 ^ n : Nat) : Int), ()) := by
  unfold f36
  simp only []
  have h := l36_spec n hn 18446744073709551616 0 (by omega) (by omega)
  have h' : loopN g36_1 o36_1 b36_1 18446744073709551616 ((n : Int), 1, 0, ()) = _ := h
  rw [show l36_1 = loopN g36_1 o36_1 b36_1 18446744073709551616 from rfl, h']
  rfl

theorem l28_spec {l : List Int} (hl : l.length ≤ 320) : ∀ (k i : Nat), l.length < i + k → i ≤ l.length → (∀ j, j < i → 0 ≤ l.getD j 0 ∧ l.getD j 0 ≤ 15) →
    (Ok l ∧ loopN g28_1 o28_1 b28_1 k (l, (shr (l.take i) : Int), (i : Int), ()) = some (.inl ((shr l : Int), ()))) ∨
    (¬ Ok l ∧ loopN g28_1 o28_1 b28_1 k (l, (shr (l.take i) : Int), (i : Int), ()) = some (.inr (.inl (-1, ())))) := by
  intro k
  induction k with
  | zero => intro i h1 h2; omega
  | succ k ih =>
    intro i h1 h2 hb
    rw [loopN_succ]
    generalize hL : loopN g28_1 o28_1 b28_1 k = L at ih ⊢
    unfold b28_1
    simp only [Int.toNat_natCast]
    rcases Nat.lt_or_ge i l.length with h | h
    · have hi0 : (0 : Int) ≤ (i : Int) := by omega
      have hi1 : (i : Int) < (l.length : Int) := by omega
      rw [if_pos (by rw [decide_eq_true_eq]; exact hi1), if_pos hi0, if_pos hi1]
      by_cases hx : 0 ≤ l.getD i 0 ∧ l.getD i 0 ≤ 15
      · rw [if_neg (by rw [decide_eq_true_eq]; exact Int.not_lt.2 hx.1), if_pos hi0, if_pos hi1, if_neg (by rw [decide_eq_true_eq]; exact Int.not_lt.2 hx.2), if_pos hi0, if_pos hi1]
        have hs1 := shr_take_succ h
        have hs2 := shr_le (l.take (i + 1))
        have hlt : (l.take (i + 1)).length ≤ 320 := by rw [List.length_take]; omega
        have hb' : ∀ j, j < i + 1 → 0 ≤ l.getD j 0 ∧ l.getD j 0 ≤ 15 := fun j hj => by
          by_cases e : j = i
          · rw [e]; exact hx
          · exact hb j (by omega)
        have e3 : IntKind.wrap IntKind.i64 ((i : Int) + 1) = ((i + 1 : Nat) : Int) := by rw [wrap_i64 (by omega)]; omega
        have hI := ih (i + 1) (by omega) (by omega) hb'
        by_cases hp : 0 < l.getD i 0
        · rw [if_pos (by rw [decide_eq_true_eq]; exact hp), if_pos hi0, if_pos hi1]
          rw [if_pos hp] at hs1
          have e0 : IntKind.wrap IntKind.i64 (15 - l.getD i 0) = ((15 - (l.getD i 0).toNat : Nat) : Int) := by rw [wrap_i64 (by omega)]; omega
          rw [e0, f36_eqn (by omega)]
          simp only [Option.bind_some, Sum.elim_inl]
          have e1 : IntKind.wrap IntKind.i64 ((shr (l.take i) : Int) + ((2 ^ (15 - (l.getD i 0).toNat) : Nat) : Int)) = ((shr (l.take (i + 1)) : Nat) : Int) := by
            rw [hs1]
            generalize (2 : Nat) ^ (15 - (l.getD i 0).toNat) = p at hs1
            rw [wrap_i64 (by omega)]; omega
          rw [e1, e3]
          exact hI
        · rw [if_neg (by rw [decide_eq_true_eq]; exact hp)]
          simp only [Option.bind_some, Sum.elim_inl]
          rw [if_neg hp, Nat.add_zero] at hs1
          rw [e3]
          rw [hs1] at hI
          exact hI
      · refine .inr ⟨not_ok h hx, ?_⟩
        by_cases h0 : l.getD i 0 < 0
        · rw [if_pos (by rw [decide_eq_true_eq]; exact h0)]; rfl
        · have h15 : 15 < l.getD i 0 := by omega
          rw [if_neg (by rw [decide_eq_true_eq]; exact h0), if_pos hi0, if_pos hi1, if_pos (by rw [decide_eq_true_eq]; exact h15)]; rfl
    · rw [if_neg (by rw [decide_eq_true_eq]; omega)]
      have : i = l.length := by omega
      subst this
      rw [List.take_length]
      refine .inl ⟨fun x hx => ?_, rfl⟩
      obtain ⟨j, hj, rfl⟩ := List.mem_iff_getElem.1 hx
      have := hb j hj
      rwa [List.getD_eq_getElem?_getD, List.getElem?_eq_getElem hj] at this

/-- The reference's share. -/
theorem f28_eqn (l : List Int) : (320 < l.length ∧ f28 (l, ()) = some (-1, ())) ∨ (l.length ≤ 320 ∧ ¬ Ok l ∧ f28 (l, ()) = some (-1, ())) ∨ (l.length ≤ 320 ∧ Ok l ∧ f28 (l, ()) = some ((shr l : Int), ())) := by
  unfold f28
  simp only []
  by_cases hl : 320 < l.length
  · rw [if_pos (by rw [decide_eq_true_eq]; omega)]
    exact .inl ⟨hl, rfl⟩
  · rw [if_neg (by rw [decide_eq_true_eq]; omega)]
    have h := l28_spec (l := l) (by omega) 18446744073709551616 0 (by omega) (by omega) (fun j hj => by omega)
    rw [List.take_zero] at h
    rw [show l28_1 = loopN g28_1 o28_1 b28_1 18446744073709551616 from rfl]
    rcases h with ⟨hk, h1⟩ | ⟨hk, h1⟩
    · have h1' : loopN g28_1 o28_1 b28_1 18446744073709551616 (l, 0, 0, ()) = _ := h1
      rw [h1']
      exact .inr (.inr ⟨by omega, hk, rfl⟩)
    · have h1' : loopN g28_1 o28_1 b28_1 18446744073709551616 (l, 0, 0, ()) = _ := h1
      rw [h1']
      exact .inr (.inl ⟨by omega, hk, rfl⟩)
end Go.Ev.Huff
namespace Go.Ev.Huff

/-! ## Words -/
def base (l : List Int) : Nat → Nat
  | 0 => 0
  | 1 => 0
  | n + 2 => 2 * (base l (n + 1) + cnt l (n + 1))
def code (l : List Int) (i : Nat) : Int := if 0 < l.getD i 0 then ((base l (l.getD i 0).toNat + cnt (l.take i) (l.getD i 0).toNat : Nat) : Int) else 0
def codes (l : List Int) : List Int := tab l.length (code l)

theorem cnt_le (l : List Int) (n : Nat) : cnt l n ≤ l.length := List.count_le_length
theorem base_le (l : List Int) : ∀ n, base l (n + 1) + 2 * l.length ≤ 2 ^ (n + 1) * l.length
  | 0 => by simp [base]
  | n + 1 => by
    have h1 := base_le l n
    have h2 := cnt_le l (n + 1)
    simp only [base]
    have e : 2 ^ (n + 1 + 1) * l.length = 2 ^ (n + 1) * l.length + 2 ^ (n + 1) * l.length := by
      rw [Nat.pow_succ 2 (n + 1), Nat.mul_comm _ 2, Nat.mul_assoc, Nat.two_mul]
    omega
theorem base_lim {l : List Int} (hl : l.length ≤ 320) {n : Nat} (hn : n ≤ 15) : base l n ≤ 10485760 := by
  cases n with
  | zero => simp [base]
  | succ n =>
    have h1 := base_le l n
    have h2 : 2 ^ (n + 1) * l.length ≤ 32768 * 320 := Nat.mul_le_mul (by
      have : (2 : Nat) ^ (n + 1) ≤ 2 ^ 15 := Nat.pow_le_pow_right (by omega) hn
      simpa using this) hl
    omega
theorem base_step {l : List Int} {n : Nat} (h : 1 ≤ n) : base l (n + 1) = 2 * (base l n + cnt l n) := by
  cases n with
  | zero => omega
  | succ n => rfl

/-! ## The program's words -/
theorem l9_1_spec {l : List Int} (hl : l.length ≤ 320) : ∀ (k n : Nat), 15 < n + k → 1 ≤ n → n ≤ 15 →
    loopN g9_1 o9_1 b9_1 k (l, (n : Int), C l, tab 16 (fun j => if j ≤ n then (base l j : Int) else 0), ()) = some (.inl (l, tab 16 (fun j => (base l j : Int)), ())) := by
  intro k
  induction k with
  | zero => intro n h1 h2 h3; omega
  | succ k ih =>
    intro n h1 h2 h3
    rw [loopN_succ]
    generalize hL : loopN g9_1 o9_1 b9_1 k = L at ih ⊢
    unfold b9_1
    simp only []
    rcases Nat.lt_or_ge n 15 with h | h
    · have e3 : IntKind.wrap IntKind.i64 ((n : Int) + 1) = ((n + 1 : Nat) : Int) := by rw [wrap_i64 (by omega)]; omega
      have h0 : (0 : Int) ≤ (n : Int) := by omega
      have h16 : (n : Int) < 16 := by omega
      rw [if_pos (by rw [decide_eq_true_eq]; omega), if_pos h0, if_pos h16, if_pos h0, if_pos h16, e3, if_pos (by omega), if_pos (by omega)]
      simp only [Option.bind_some, Sum.elim_inl, Int.toNat_natCast]
      have hb := base_lim hl (n := n) (by omega)
      have hc := cnt_le l n
      have e4 : IntKind.wrap IntKind.i64 (IntKind.wrap IntKind.i64 ((tab 16 (fun j => if j ≤ n then (base l j : Int) else 0)).getD n 0 + (C l).getD n 0) * 2) = (base l (n + 1) : Int) := by
        unfold C
        rw [tab_get (by omega), tab_get (by omega), if_pos (Nat.le_refl n), if_neg (by omega), base_step h2, wrap_i64 (n := (base l n : Int) + (cnt l n : Int)) (by omega), wrap_i64 (by omega)]
        omega
      have e5 : (tab 16 (fun j => if j ≤ n then (base l j : Int) else 0)).set (n + 1) (base l (n + 1) : Int) = tab 16 (fun j => if j ≤ n + 1 then (base l j : Int) else 0) := by
        rw [tab_set]
        refine tab_ext fun j hj => ?_
        by_cases ej : j = n + 1
        · rw [if_pos ej, if_pos (by omega), ej]
        · rw [if_neg ej]
          by_cases ej2 : j ≤ n
          · rw [if_pos ej2, if_pos (by omega)]
          · rw [if_neg ej2, if_neg (by omega)]
      have hI := ih (n + 1) (by omega) (by omega) (by omega)
      rw [← e5, ← e4] at hI
      exact hI
    · rw [if_neg (by rw [decide_eq_true_eq]; omega)]
      have : n = 15 := by omega
      subst this
      have e : tab 16 (fun j => if j ≤ 15 then (base l j : Int) else 0) = tab 16 (fun j => (base l j : Int)) := tab_ext fun j hj => by rw [if_pos (by omega)]
      rw [e]
      rfl

theorem l9_2_spec {l : List Int} (hl : l.length ≤ 320) (hk : Ok l) : ∀ (k s : Nat), l.length < s + k → s ≤ l.length →
    loopN g9_2 o9_2 b9_2 k (l, (l.length : Int), (s : Int), tab 16 (fun j => (base l j : Int) + if j = 0 then 0 else (cnt (l.take s) j : Int)), tab l.length (fun i => if i < s then code l i else 0), ()) = some (.inl (codes l, ())) := by
  intro k
  induction k with
  | zero => intro s h1 h2; omega
  | succ k ih =>
    intro s h1 h2
    rw [loopN_succ]
    generalize hL : loopN g9_2 o9_2 b9_2 k = L at ih ⊢
    unfold b9_2
    simp only [Int.toNat_natCast, if_true, Nat.zero_add, List.length_set, tab_length]
    rcases Nat.lt_or_ge s l.length with h | h
    · have hi0 : (0 : Int) ≤ (s : Int) := by omega
      have hi1 : (s : Int) < (l.length : Int) := by omega
      rw [if_pos (by rw [decide_eq_true_eq]; exact hi1), if_pos hi0, if_pos hi1]
      have hx := hk.get s
      have e3 : IntKind.wrap IntKind.i64 ((s : Int) + 1) = ((s + 1 : Nat) : Int) := by rw [wrap_i64 (by omega)]; omega
      have hI := ih (s + 1) (by omega) (by omega)
      obtain ⟨n, hn⟩ := Int.eq_ofNat_of_zero_le hx.1
      by_cases hp : 0 < l.getD s 0
      · have hx16 : l.getD s 0 < 16 := by omega
        rw [if_pos (by rw [decide_eq_true_eq]; exact hp), if_pos hx.1, if_pos hx16, if_pos hi0, if_pos hi1, if_pos hx.1, if_pos hx16, if_pos hx.1, if_pos hx16]
        simp only [Option.bind_some, Sum.elim_inl]
        have hb := base_lim hl (n := n) (by omega)
        have hc : cnt (l.take s) n ≤ 320 := Nat.le_trans (cnt_le _ _) (by rw [List.length_take]; omega)
        have hcode : code l s = (base l n : Int) + (cnt (l.take s) n : Int) := by
          unfold code
          rw [if_pos hp, hn, Int.toNat_natCast]; omega
        have e4 : (tab 16 (fun j => (base l j : Int) + if j = 0 then 0 else (cnt (l.take s) j : Int))).getD (l.getD s 0).toNat 0 = code l s := by
          rw [hn, Int.toNat_natCast, tab_get (by omega), if_neg (by omega), hcode]
        rw [e3, e4]
        have e5 : (tab 16 (fun j => (base l j : Int) + if j = 0 then 0 else (cnt (l.take s) j : Int))).set (l.getD s 0).toNat (IntKind.wrap IntKind.i64 (code l s + 1)) = tab 16 (fun j => (base l j : Int) + if j = 0 then 0 else (cnt (l.take (s + 1)) j : Int)) := by
          rw [hn, Int.toNat_natCast, tab_set, hcode, wrap_i64 (by omega)]
          refine tab_ext fun j hj => ?_
          by_cases ej : j = n
          · subst ej
            rw [if_pos rfl, if_neg (by omega)]
            unfold cnt
            rw [count_take_succ h, hn, if_pos rfl]; omega
          · rw [if_neg ej]
            by_cases e0 : j = 0
            · rw [if_pos e0, if_pos e0]
            · rw [if_neg e0, if_neg e0]
              unfold cnt
              rw [count_take_succ h, hn, if_neg (by omega)]; omega
        have e6 : (tab l.length (fun i => if i < s then code l i else 0)).set s (code l s) = tab l.length (fun i => if i < s + 1 then code l i else 0) := by
          rw [tab_set]
          refine tab_ext fun j hj => ?_
          by_cases ej : j = s
          · rw [if_pos ej, if_pos (by omega), ej]
          · rw [if_neg ej]
            by_cases ej2 : j < s
            · rw [if_pos ej2, if_pos (by omega)]
            · rw [if_neg ej2, if_neg (by omega)]
        rw [e5, e6]
        exact hI
      · rw [if_neg (by rw [decide_eq_true_eq]; exact hp)]
        simp only [Option.bind_some, Sum.elim_inl]
        rw [e3]
        have e5 : tab 16 (fun j => (base l j : Int) + if j = 0 then 0 else (cnt (l.take (s + 1)) j : Int)) = tab 16 (fun j => (base l j : Int) + if j = 0 then 0 else (cnt (l.take s) j : Int)) := by
          refine tab_ext fun j hj => ?_
          by_cases e0 : j = 0
          · rw [if_pos e0, if_pos e0]
          · rw [if_neg e0, if_neg e0]
            unfold cnt
            rw [count_take_succ h, if_neg (by omega)]; omega
        have e6 : tab l.length (fun i => if i < s + 1 then code l i else 0) = tab l.length (fun i => if i < s then code l i else 0) := by
          refine tab_ext fun j hj => ?_
          by_cases ej : j = s
          · rw [if_pos (by omega), if_neg (by omega), ej]
            unfold code
            rw [if_neg hp]
          · by_cases ej2 : j < s
            · rw [if_pos ej2, if_pos (by omega)]
            · rw [if_neg ej2, if_neg (by omega)]
        rw [e5, e6] at hI
        exact hI
    · rw [if_neg (by rw [decide_eq_true_eq]; omega)]
      have : s = l.length := by omega
      subst this
      have e : tab l.length (fun i => if i < l.length then code l i else 0) = codes l := tab_ext fun j hj => by rw [if_pos hj]
      rw [e]
      rfl

/-- The program's words. -/
theorem f9_eqn (l : List Int) : f9 (l, ()) = some (err l, (if err l = 0 then codes l else []), ()) := by
  obtain ⟨c, h1, h2⟩ := f27_eqn l
  unfold f9
  simp only []
  rw [h1]
  simp only [Option.bind_some]
  by_cases he : err l = 0
  · obtain ⟨rfl, hl, hk, _⟩ := h2 he
    rw [if_neg (by rw [he]; simp), if_pos he]
    have h := l9_1_spec hl 18446744073709551616 1 (by omega) (by omega) (by omega)
    have e0 : tab 16 (fun j => if j ≤ 1 then (base l j : Int) else 0) = List.replicate 16 0 := by
      rw [tab_zero]
      refine tab_ext fun j hj => ?_
      by_cases hj1 : j ≤ 1
      · rw [if_pos hj1]
        have : j = 0 ∨ j = 1 := by omega
        rcases this with rfl | rfl <;> rfl
      · rw [if_neg hj1]
    rw [e0] at h
    have h' : loopN g9_1 o9_1 b9_1 18446744073709551616 (l, 1, C l, List.replicate 16 0, ()) = _ := h
    rw [show l9_1 = loopN g9_1 o9_1 b9_1 18446744073709551616 from rfl, h']
    simp only [Option.bind_some, Sum.elim_inl, Int.toNat_natCast, List.length_replicate, if_true]
    rw [if_pos (by omega), if_pos (by omega)]
    have g := l9_2_spec hl hk 18446744073709551616 0 (by omega) (by omega)
    have e1 : tab 16 (fun j => (base l j : Int) + if j = 0 then 0 else (cnt (l.take 0) j : Int)) = tab 16 (fun j => (base l j : Int)) := tab_ext fun j hj => by
      by_cases h0 : j = 0
      · rw [if_pos h0]; omega
      · rw [if_neg h0, List.take_zero]; simp [cnt]
    have e2 : tab l.length (fun i => if i < 0 then code l i else 0) = List.replicate l.length 0 := by
      rw [tab_zero]
      exact tab_ext fun j hj => by rw [if_neg (by omega)]
    rw [e1, e2] at g
    have g' : loopN g9_2 o9_2 b9_2 18446744073709551616 (l, (l.length : Int), 0, tab 16 (fun j => (base l j : Int)), List.replicate l.length 0, ()) = _ := g
    rw [show l9_2 = loopN g9_2 o9_2 b9_2 18446744073709551616 from rfl, g', he]
    simp
  · rw [if_pos (by simpa using he), if_neg he]
end Go.Ev.Huff
namespace Go.Ev.Huff

/-! ## The reference's words -/
def part (l : List Int) (n s : Nat) : List Int := tab l.length (fun i => if 0 < l.getD i 0 ∧ (l.getD i 0 < (n : Int) ∨ (l.getD i 0 = (n : Int) ∧ i < s)) then code l i else 0)

theorem l10_2_spec {l : List Int} (hl : l.length ≤ 320) {n : Nat} (hn1 : 1 ≤ n) (hn : n ≤ 15) : ∀ (k s : Nat), l.length < s + k → s ≤ l.length →
    loopN g10_2 o10_2 b10_2 k (l, ((base l n + cnt (l.take s) n : Nat) : Int), (n : Int), (s : Int), part l n s, ()) = some (.inl (l, ((base l n + cnt l n : Nat) : Int), (n : Int), part l n l.length, ())) := by
  intro k
  induction k with
  | zero => intro s h1 h2; omega
  | succ k ih =>
    intro s h1 h2
    rw [loopN_succ]
    generalize hL : loopN g10_2 o10_2 b10_2 k = L at ih ⊢
    unfold b10_2
    simp only [Int.toNat_natCast, if_true, Nat.zero_add, List.length_set]
    rcases Nat.lt_or_ge s l.length with h | h
    · have hi0 : (0 : Int) ≤ (s : Int) := by omega
      have hi1 : (s : Int) < (l.length : Int) := by omega
      have hpl : (part l n s).length = l.length := tab_length _ _
      rw [if_pos (by rw [decide_eq_true_eq]; exact hi1), if_pos hi0, if_pos hi1]
      have e3 : IntKind.wrap IntKind.i64 ((s : Int) + 1) = ((s + 1 : Nat) : Int) := by rw [wrap_i64 (by omega)]; omega
      have hI := ih (s + 1) (by omega) (by omega)
      have hb := base_lim hl hn
      have hc : cnt (l.take s) n ≤ 320 := Nat.le_trans (cnt_le _ _) (by rw [List.length_take]; omega)
      have hcs : cnt (l.take (s + 1)) n = cnt (l.take s) n + if l.getD s 0 = (n : Int) then 1 else 0 := count_take_succ h _
      by_cases hx : l.getD s 0 = (n : Int)
      · rw [if_pos (by rw [hx]; simp), if_pos hi0, if_pos (by rw [hpl]; exact hi1)]
        simp only [Option.bind_some, Sum.elim_inl]
        rw [if_pos hx] at hcs
        have e4 : IntKind.wrap IntKind.i64 (((base l n + cnt (l.take s) n : Nat) : Int) + 1) = ((base l n + cnt (l.take (s + 1)) n : Nat) : Int) := by
          rw [wrap_i64 (by omega)]; omega
        have e5 : (part l n s).set s ((base l n + cnt (l.take s) n : Nat) : Int) = part l n (s + 1) := by
          unfold part
          rw [tab_set]
          refine tab_ext fun j hj => ?_
          by_cases ej : j = s
          · subst ej
            rw [if_pos rfl, if_pos ⟨by omega, .inr ⟨hx, by omega⟩⟩]
            unfold code
            rw [if_pos (by omega), hx, Int.toNat_natCast]
          · rw [if_neg ej]
            by_cases hc1 : 0 < l.getD j 0 ∧ (l.getD j 0 < (n : Int) ∨ (l.getD j 0 = (n : Int) ∧ j < s))
            · rw [if_pos hc1, if_pos ⟨hc1.1, hc1.2.imp id (fun h => ⟨h.1, by omega⟩)⟩]
            · rw [if_neg hc1, if_neg (fun h => hc1 ⟨h.1, h.2.imp id (fun h => ⟨h.1, by omega⟩)⟩)]
        rw [e3, e4, e5]
        exact hI
      · rw [if_neg (by simpa using hx)]
        simp only [Option.bind_some, Sum.elim_inl]
        rw [if_neg hx, Nat.add_zero] at hcs
        have e5 : part l n (s + 1) = part l n s := by
          unfold part
          refine tab_ext fun j hj => ?_
          by_cases ej : j = s
          · subst ej
            by_cases hc1 : 0 < l.getD j 0 ∧ l.getD j 0 < (n : Int)
            · rw [if_pos ⟨hc1.1, .inl hc1.2⟩, if_pos ⟨hc1.1, .inl hc1.2⟩]
            · rw [if_neg (fun h => h.2.elim (fun h2 => hc1 ⟨h.1, h2⟩) (fun h2 => hx h2.1)), if_neg (fun h => h.2.elim (fun h2 => hc1 ⟨h.1, h2⟩) (fun h2 => hx h2.1))]
          · by_cases hc1 : 0 < l.getD j 0 ∧ (l.getD j 0 < (n : Int) ∨ (l.getD j 0 = (n : Int) ∧ j < s))
            · rw [if_pos hc1, if_pos ⟨hc1.1, hc1.2.imp id (fun h => ⟨h.1, by omega⟩)⟩]
            · rw [if_neg hc1, if_neg (fun h => hc1 ⟨h.1, h.2.imp id (fun h => ⟨h.1, by omega⟩)⟩)]
        rw [e5, hcs] at hI
        rw [e3]
        exact hI
    · rw [if_neg (by rw [decide_eq_true_eq]; omega)]
      have : s = l.length := by omega
      subst this
      rw [List.take_length]
      rfl

theorem l10_1_spec {l : List Int} (hl : l.length ≤ 320) (hk : Ok l) : ∀ (k n : Nat) (nx : Nat), 16 < n + k → 1 ≤ n → n ≤ 16 → (n ≤ 15 → 2 * nx = base l n) → nx ≤ 100000000 →
    loopN g10_1 o10_1 b10_1 k (l, (nx : Int), (n : Int), part l n 0, ()) = some (.inl (codes l, ())) := by
  intro k
  induction k with
  | zero => intro n nx h1 h2 h3; omega
  | succ k ih =>
    intro n nx h1 h2 h3 h4 h5
    rw [loopN_succ]
    generalize hL : loopN g10_1 o10_1 b10_1 k = L at ih ⊢
    unfold b10_1
    simp only [if_true]
    rcases Nat.lt_or_ge 15 n with h | h
    · rw [if_neg (by rw [decide_eq_true_eq]; omega)]
      have hn : n = 16 := by omega
      subst hn
      have e : part l 16 0 = codes l := by
        refine tab_ext fun j hj => ?_
        have hx := hk.get j
        by_cases h0 : 0 < l.getD j 0
        · rw [if_pos ⟨h0, .inl (by omega)⟩]
        · rw [if_neg (fun h => h0 h.1)]
          unfold code
          rw [if_neg h0]
      rw [e]
      rfl
    · rw [if_pos (by rw [decide_eq_true_eq]; omega)]
      have e1 : IntKind.wrap IntKind.i64 (2 * (nx : Int)) = ((base l n : Nat) : Int) := by
        have := h4 h
        rw [wrap_i64 (by omega)]; omega
      have g := l10_2_spec hl h2 h 18446744073709551616 0 (by omega) (by omega)
      have ec : cnt (l.take 0) n = 0 := by simp [cnt]
      rw [ec, Nat.add_zero] at g
      have g' : loopN g10_2 o10_2 b10_2 18446744073709551616 (l, ((base l n : Nat) : Int), (n : Int), 0, part l n 0, ()) = _ := g
      rw [e1, show l10_2 = loopN g10_2 o10_2 b10_2 18446744073709551616 from rfl, g']
      simp only [Option.bind_some, Sum.elim_inl]
      have e2 : IntKind.wrap IntKind.i64 ((n : Int) + 1) = ((n + 1 : Nat) : Int) := by rw [wrap_i64 (by omega)]; omega
      have e3 : part l n l.length = part l (n + 1) 0 := by
        refine tab_ext fun j hj => ?_
        by_cases hc : 0 < l.getD j 0 ∧ l.getD j 0 ≤ (n : Int)
        · rw [if_pos ⟨hc.1, by omega⟩, if_pos ⟨hc.1, .inl (by omega)⟩]
        · rw [if_neg (fun h => hc ⟨h.1, by omega⟩), if_neg (fun h => hc ⟨h.1, by omega⟩)]
      have hb := base_lim hl h
      have hcn := cnt_le l n
      rw [e2, e3]
      exact ih (n + 1) (base l n + cnt l n) (by omega) (by omega) (by omega) (fun _ => (base_step h2).symm) (by omega)

/-- The reference's words are the program's. -/
theorem f10_eqn (l : List Int) : f10 (l, ()) = some (err l, (if err l = 0 then codes l else []), ()) := by
  unfold f10
  simp only []
  rcases f28_eqn l with ⟨h0, h1⟩ | ⟨h0, hk, h1⟩ | ⟨h0, hk, h1⟩
  · rw [h1]
    have he : err l = 1 := by unfold err; rw [if_pos h0]
    rw [he]; rfl
  · rw [h1]
    have he : err l = 1 := by unfold err; rw [if_neg (by omega), if_neg hk]
    rw [he]; rfl
  · rw [h1]
    simp only [Option.bind_some]
    rw [if_neg (by rw [decide_eq_true_eq]; omega)]
    by_cases hs : 32768 < shr l
    · have he : err l = 4 := by unfold err; rw [if_neg (by omega), if_pos hk, if_pos hs]
      rw [if_pos (by rw [decide_eq_true_eq]; omega), he]; rfl
    · have he : err l = 0 := by unfold err; rw [if_neg (by omega), if_pos hk, if_neg hs]
      rw [if_neg (by rw [decide_eq_true_eq]; omega), he]
      simp only [Int.toNat_natCast, List.length_replicate, if_true]
      rw [if_pos (by omega), if_pos (by omega)]
      have g := l10_1_spec h0 hk 18446744073709551616 1 0 (by omega) (by omega) (by omega) (fun _ => rfl) (by omega)
      have e2 : part l 1 0 = List.replicate l.length 0 := by
        rw [tab_zero]
        exact tab_ext fun j hj => by rw [if_neg (fun h => by omega)]
      rw [e2] at g
      have g' : loopN g10_1 o10_1 b10_1 18446744073709551616 (l, 0, 1, List.replicate l.length 0, ()) = _ := g
      rw [show l10_1 = loopN g10_1 o10_1 b10_1 18446744073709551616 from rfl, g']
      simp
end Go.Ev.Huff
namespace Go.Ev.Huff

/-! ## The table -/
def sgn (l : List Int) (n s : Nat) : List Int := ((List.range s).filter fun i => l.getD i 0 == (n : Int)).map fun (i : Nat) => (i : Int)
def sgs (l : List Int) : Nat → List Int
  | 0 => []
  | n + 1 => sgs l n ++ sgn l (n + 1) l.length
def shN (l : List Int) : Nat → Nat
  | 0 => 0
  | n + 1 => shN l n + cnt l (n + 1) * 2 ^ (15 - (n + 1))
def cntT (l : List Int) (n s : Nat) : List Int := tab 16 (fun j => if j = 0 then 0 else if j ≤ n then (cnt l j : Int) else if j = n + 1 then (cnt (l.take s) j : Int) else 0)
theorem sgn_succ (l : List Int) (n s : Nat) : sgn l n (s + 1) = sgn l n s ++ (if l.getD s 0 = (n : Int) then [(s : Int)] else []) := by
  unfold sgn
  rw [List.range_succ, List.filter_append, List.map_append]
  congr 1
  by_cases h : l.getD s 0 = (n : Int)
  · rw [List.filter_cons_of_pos (by rw [h]; simp), if_pos h]; rfl
  · rw [List.filter_cons_of_neg (by simpa using h), if_neg h]; rfl
theorem sgn_length (l : List Int) (n : Nat) : ∀ s, s ≤ l.length → (sgn l n s).length = cnt (l.take s) n
  | 0, _ => by simp [sgn, cnt]
  | s + 1, h => by
    rw [sgn_succ, List.length_append, sgn_length l n s (by omega)]
    unfold cnt
    rw [count_take_succ (by omega)]
    split <;> simp
theorem pow15 {n : Nat} (h : n < 15) : (2 : Nat) ^ (15 - (n + 1)) ≤ 16384 := by
  have : (2 : Nat) ^ (15 - (n + 1)) ≤ 2 ^ 14 := Nat.pow_le_pow_right (by omega) (by omega)
  simpa using this

theorem l11_2_spec {l : List Int} (hl : l.length ≤ 320) {n : Nat} (hn : n < 15) (a : Int) (lens cds sg : List Int) (sh : Nat) (hsh : sh ≤ 100000000) (hsg : sg.length ≤ 100000) : ∀ (k s : Nat), l.length < s + k → s ≤ l.length →
    loopN g11_2 o11_2 b11_2 k (l, ((sh + cnt (l.take s) (n + 1) * 2 ^ (15 - (n + 1)) : Nat) : Int), (n : Int), a, l, (l.length : Int), (s : Int), cntT l n s, lens, cds, sg ++ sgn l (n + 1) s, ()) =
      some (.inl (l, ((sh + cnt l (n + 1) * 2 ^ (15 - (n + 1)) : Nat) : Int), a, cntT l n l.length, lens, cds, sg ++ sgn l (n + 1) l.length, ())) := by
  intro k
  induction k with
  | zero => intro s h1 h2; omega
  | succ k ih =>
    intro s h1 h2
    rw [loopN_succ]
    generalize hL : loopN g11_2 o11_2 b11_2 k = L at ih ⊢
    unfold b11_2
    simp only [Int.toNat_natCast, if_true, List.drop_zero, List.take_length, one_of]
    rcases Nat.lt_or_ge s l.length with h | h
    · have hi0 : (0 : Int) ≤ (s : Int) := by omega
      have hi1 : (s : Int) < (l.length : Int) := by omega
      have e3 : IntKind.wrap IntKind.i64 ((s : Int) + 1) = ((s + 1 : Nat) : Int) := by rw [wrap_i64 (by omega)]; omega
      have e4 : IntKind.wrap IntKind.i64 ((n : Int) + 1) = ((n + 1 : Nat) : Int) := by rw [wrap_i64 (by omega)]; omega
      have hI := ih (s + 1) (by omega) (by omega)
      have hc : cnt (l.take s) (n + 1) ≤ 320 := Nat.le_trans (cnt_le _ _) (by rw [List.length_take]; omega)
      have hcs : cnt (l.take (s + 1)) (n + 1) = cnt (l.take s) (n + 1) + if l.getD s 0 = ((n + 1 : Nat) : Int) then 1 else 0 := count_take_succ h _
      have hp := pow15 hn
      rw [if_pos (by rw [decide_eq_true_eq]; exact hi1), if_pos hi0, if_pos hi1, e4]
      by_cases hx : l.getD s 0 = ((n + 1 : Nat) : Int)
      · have hgl : (sg ++ sgn l (n + 1) s).length ≤ 200000 := by
          rw [List.length_append, sgn_length _ _ _ h2]; omega
        have hx0 : (0 : Int) ≤ l.getD s 0 := by omega
        have hx16 : l.getD s 0 < 16 := by omega
        rw [if_pos hx] at hcs
        rw [if_pos (by rw [hx]; simp), if_pos (by rw [List.length_singleton]; omega), if_pos hx0, if_pos hx16, if_pos hx0, if_pos hx16, if_neg (Int.not_lt.2 hx0)]
        simp only [Option.bind_some, Sum.elim_inl]
        rw [fdiv32768 ⟨hx0, by omega⟩, e3]
        have e5 : IntKind.wrap IntKind.i64 (((sh + cnt (l.take s) (n + 1) * 2 ^ (15 - (n + 1)) : Nat) : Int) + ((2 ^ (15 - (l.getD s 0).toNat) : Nat) : Int)) = ((sh + cnt (l.take (s + 1)) (n + 1) * 2 ^ (15 - (n + 1)) : Nat) : Int) := by
          rw [hx, Int.toNat_natCast, hcs, Nat.add_mul, Nat.one_mul]
          generalize (2 : Nat) ^ (15 - (n + 1)) = p at hp
          have : cnt (l.take s) (n + 1) * p ≤ 320 * 16384 := Nat.mul_le_mul hc hp
          generalize cnt (l.take s) (n + 1) * p = q at this
          rw [wrap_i64 (by omega)]; omega
        have e6 : (cntT l n s).set (l.getD s 0).toNat (IntKind.wrap IntKind.i64 ((cntT l n s).getD (l.getD s 0).toNat 0 + 1)) = cntT l n (s + 1) := by
          rw [hx, Int.toNat_natCast]
          unfold cntT
          rw [tab_get (by omega), tab_set, if_neg (by omega), if_neg (by omega), if_pos rfl, wrap_i64 (by omega)]
          refine tab_ext fun j hj => ?_
          by_cases ej : j = n + 1
          · subst ej
            rw [if_pos rfl, if_neg (by omega), if_neg (by omega), if_pos rfl, hcs]; omega
          · rw [if_neg ej]
            by_cases e0 : j = 0
            · rw [if_pos e0, if_pos e0]
            · rw [if_neg e0, if_neg e0]
              by_cases e1 : j ≤ n
              · rw [if_pos e1, if_pos e1]
              · rw [if_neg e1, if_neg e1, if_neg ej, if_neg ej]
        have e7 : sg ++ sgn l (n + 1) s ++ [(s : Int)] = sg ++ sgn l (n + 1) (s + 1) := by rw [sgn_succ, if_pos hx, List.append_assoc]
        rw [e5, e6, e7]
        exact hI
      · rw [if_neg (by simpa using hx)]
        simp only [Option.bind_some, Sum.elim_inl]
        rw [if_neg hx] at hcs
        have e6 : cntT l n (s + 1) = cntT l n s := by
          unfold cntT
          refine tab_ext fun j hj => ?_
          by_cases ej : j = n + 1
          · subst ej
            rw [if_neg (by omega), if_neg (by omega), if_pos rfl, if_neg (by omega), if_neg (by omega), if_pos rfl, hcs]; omega
          · rw [if_neg ej, if_neg ej]
        have e7 : sgn l (n + 1) (s + 1) = sgn l (n + 1) s := by rw [sgn_succ, if_neg hx, List.append_nil]
        rw [e6, e7, hcs, Nat.add_zero] at hI
        rw [e3]
        exact hI
    · rw [if_neg (by rw [decide_eq_true_eq]; omega)]
      have : s = l.length := by omega
      subst this
      rw [List.take_length]
      rfl
end Go.Ev.Huff
namespace Go.Ev.Huff

def cntU (l : List Int) (n : Nat) : List Int := tab 16 (fun j => if j = 0 then 0 else if j ≤ n then (cnt l j : Int) else 0)
theorem sgs_length (l : List Int) : ∀ n, (sgs l n).length ≤ n * l.length
  | 0 => by simp [sgs]
  | n + 1 => by
    have h1 := sgs_length l n
    have h2 := cnt_le l (n + 1)
    simp only [sgs, List.length_append, sgn_length l (n + 1) l.length (Nat.le_refl _), List.take_length, Nat.add_mul, Nat.one_mul]
    omega
theorem shN_le (l : List Int) (hl : l.length ≤ 320) : ∀ n, n ≤ 15 → shN l n ≤ n * 5242880
  | 0, _ => by simp [shN]
  | n + 1, h => by
    have h1 := shN_le l hl n (by omega)
    have h2 := cnt_le l (n + 1)
    have h3 : cnt l (n + 1) * 2 ^ (15 - (n + 1)) ≤ 320 * 16384 := Nat.mul_le_mul (by omega) (pow15 (by omega))
    simp only [shN, Nat.add_mul]
    omega

theorem l11_1_spec {l : List Int} (hl : l.length ≤ 320) (lens cds : List Int) : ∀ (k n : Nat), 15 < n + k → n ≤ 15 →
    loopN g11_1 o11_1 b11_1 k (l, (shN l n : Int), (n : Int), cntU l n, lens, cds, sgs l n, ()) = some (.inl ((shN l 15 : Int), cntU l 15, lens, cds, sgs l 15, ())) := by
  intro k
  induction k with
  | zero => intro n h1 h2; omega
  | succ k ih =>
    intro n h1 h2
    rw [loopN_succ]
    generalize hL : loopN g11_1 o11_1 b11_1 k = L at ih ⊢
    unfold b11_1
    simp only [if_true]
    rcases Nat.lt_or_ge n 15 with h | h
    · rw [if_pos (by rw [decide_eq_true_eq]; omega)]
      have hsl := sgs_length l n
      have hshl := shN_le l hl n (by omega)
      have hm : n * l.length ≤ 15 * 320 := Nat.mul_le_mul (by omega) hl
      have g := l11_2_spec hl h (n : Int) lens cds (sgs l n) (shN l n) (by omega) (by omega) 18446744073709551616 0 (by omega) (by omega)
      have e0 : cnt (l.take 0) (n + 1) = 0 := by simp [cnt]
      have e1 : sgn l (n + 1) 0 = [] := by simp [sgn]
      have e2 : cntT l n 0 = cntU l n := by
        unfold cntT cntU
        refine tab_ext fun j hj => ?_
        by_cases h0 : j = 0
        · rw [if_pos h0, if_pos h0]
        · rw [if_neg h0, if_neg h0]
          by_cases h1 : j ≤ n
          · rw [if_pos h1, if_pos h1]
          · rw [if_neg h1, if_neg h1, List.take_zero]; simp [cnt]
      rw [e0, Nat.zero_mul, Nat.add_zero, e1, List.append_nil, e2] at g
      have g' : loopN g11_2 o11_2 b11_2 18446744073709551616 (l, (shN l n : Int), (n : Int), (n : Int), l, (l.length : Int), 0, cntU l n, lens, cds, sgs l n, ()) = _ := g
      rw [show l11_2 = loopN g11_2 o11_2 b11_2 18446744073709551616 from rfl, g']
      simp only [Option.bind_some, Sum.elim_inl]
      have e3 : IntKind.wrap IntKind.i64 ((n : Int) + 1) = ((n + 1 : Nat) : Int) := by rw [wrap_i64 (by omega)]; omega
      have e4 : cntT l n l.length = cntU l (n + 1) := by
        unfold cntT cntU
        refine tab_ext fun j hj => ?_
        by_cases h0 : j = 0
        · rw [if_pos h0, if_pos h0]
        · rw [if_neg h0, if_neg h0, List.take_length]
          by_cases h1 : j ≤ n
          · rw [if_pos h1, if_pos (by omega)]
          · rw [if_neg h1]
            by_cases h2 : j = n + 1
            · rw [if_pos h2, if_pos (by omega)]
            · rw [if_neg h2, if_neg (by omega)]
      rw [e3, e4]
      exact ih (n + 1) (by omega) (by omega)
    · rw [if_neg (by rw [decide_eq_true_eq]; omega)]
      have : n = 15 := by omega
      subst this
      rfl
end Go.Ev.Huff
namespace Go.Ev.Huff

/-- Share by value. -/
theorem shN_cons (x : Int) (l : List Int) (hx : 0 ≤ x ∧ x ≤ 15) : ∀ n, shN (x :: l) n = shN l n + (if 0 < x ∧ x ≤ (n : Int) then 2 ^ (15 - x.toNat) else 0)
  | 0 => by
    rw [if_neg (by omega)]; simp [shN]
  | n + 1 => by
    simp only [shN, shN_cons x l hx n]
    have hc : cnt (x :: l) (n + 1) = cnt l (n + 1) + if x = ((n + 1 : Nat) : Int) then 1 else 0 := by
      unfold cnt
      rw [List.count_cons]
      by_cases h : x = ((n + 1 : Nat) : Int)
      · rw [if_pos h, if_pos (by simpa using h)]
      · rw [if_neg h, if_neg (by simpa using h)]
    rw [hc, Nat.add_mul]
    by_cases h : x = ((n + 1 : Nat) : Int)
    · rw [if_pos h, if_neg (by omega), if_pos (by omega), h, Int.toNat_natCast, Nat.one_mul]; omega
    · rw [if_neg h, Nat.zero_mul]
      by_cases h2 : 0 < x ∧ x ≤ (n : Int)
      · rw [if_pos h2, if_pos (by omega)]; omega
      · rw [if_neg h2, if_neg (by omega)]; omega
theorem shN_shr : ∀ {l : List Int}, Ok l → shN l 15 = shr l
  | [], _ => by simp [shr, shN, cnt]
  | x :: l, h => by
    have hx := h x (List.mem_cons_self ..)
    rw [shN_cons x l hx 15, shN_shr (fun y hy => h y (List.mem_cons_of_mem _ hy))]
    simp only [shr]
    by_cases h2 : 0 < x
    · rw [if_pos h2, if_pos (by omega)]; omega
    · rw [if_neg h2, if_neg (by omega)]; omega
end Go.Ev.Huff
namespace Go.Ev.Huff

/-- How many have a word. -/
def words (l : List Int) : Nat := (sgs l 15).length
theorem cntU_C (l : List Int) : cntU l 15 = C l := by
  unfold cntU C
  refine tab_ext fun j hj => ?_
  by_cases h0 : j = 0
  · rw [if_pos h0, if_pos h0]
  · rw [if_neg h0, if_neg h0, if_pos (by omega)]
theorem f29_eqn {l : List Int} (hl : l.length ≤ 100000) : f29 (l, ()) = some (l, ()) := by
  unfold f29
  have e : List.take 0 (List.drop 0 (List.replicate 0 (0 : Int))) = [] := rfl
  simp only [e, List.nil_append, if_true]
  by_cases h : l.length = 0
  · have hn : l = [] := List.eq_nil_of_length_eq_zero h
    subst hn
    rfl
  · rw [if_neg h, if_pos (by omega)]
/-- May a table be? -/
noncomputable def errM (l : List Int) : Int := if err l = 0 then (if shr l < 32768 ∧ 0 < words l ∧ (1 < words l ∨ cnt l 1 = 0) then 4 else 0) else err l
theorem err_ok {l : List Int} (h : err l = 0) : l.length ≤ 320 ∧ Ok l ∧ shr l ≤ 32768 := by
  obtain ⟨c, _, h2⟩ := f27_eqn l
  obtain ⟨_, h3⟩ := h2 h
  exact h3
theorem errM_pos {l : List Int} (he : err l = 0) (h : shr l < 32768 ∧ 0 < words l ∧ (1 < words l ∨ cnt l 1 = 0)) : errM l = 4 := by
  unfold errM; rw [if_pos he, if_pos h]
theorem errM_neg {l : List Int} (he : err l = 0) (h : ¬ (shr l < 32768 ∧ 0 < words l ∧ (1 < words l ∨ cnt l 1 = 0))) : errM l = 0 := by
  unfold errM; rw [if_pos he, if_neg h]
theorem f11_eqn (l : List Int) : f11 (l, ()) = if errM l = 0 then some (.inr (0, C l, l, codes l, sgs l 15, ())) else some (.inl (errM l, ())) := by
  unfold f11
  rw [f9_eqn]
  simp only [Option.bind_some]
  by_cases he : err l = 0
  · obtain ⟨hl, hk, hs⟩ := err_ok he
    rw [if_neg (by rw [he]; simp), if_pos he, f29_eqn (by omega)]
    simp only [Option.bind_some, List.drop_zero, List.take_length]
    have g := l11_1_spec hl l (codes l) 18446744073709551616 0 (by omega) (by omega)
    have e0 : cntU l 0 = List.replicate 16 0 := by
      rw [tab_zero]
      exact tab_ext fun j hj => by
        by_cases h0 : j = 0
        · rw [if_pos h0]
        · rw [if_neg h0, if_neg (by omega)]
    rw [e0, cntU_C, shN_shr hk] at g
    have g' : loopN g11_1 o11_1 b11_1 18446744073709551616 (l, 0, 0, List.replicate 16 0, l, codes l, [], ()) = _ := g
    rw [show l11_1 = loopN g11_1 o11_1 b11_1 18446744073709551616 from rfl]
    generalize loopN g11_1 o11_1 b11_1 18446744073709551616 (l, 0, 0, List.replicate 16 0, l, codes l, [], ()) = X at g' ⊢
    subst g'
    rw [Option.bind_some, Sum.elim_inl]
    dsimp only
    rw [if_pos (trivial : True)]
    have ec : (C l).getD 1 0 = (cnt l 1 : Int) := by unfold C; rw [tab_get (by omega), if_neg (by omega)]
    have hwd : (sgs l 15).length = words l := rfl
    rw [ec, hwd]
    by_cases h1 : shr l < 32768
    · rw [if_pos (by rw [decide_eq_true_eq]; omega)]
      by_cases h2 : 0 < words l
      · rw [if_pos (by rw [decide_eq_true_eq]; omega)]
        by_cases h3 : 1 < words l
        · rw [errM_pos he ⟨h1, h2, .inl h3⟩, if_pos (by rw [decide_eq_true_eq]; omega), if_neg (by decide)]
        · by_cases h4 : cnt l 1 = 0
          · rw [errM_pos he ⟨h1, h2, .inr h4⟩, if_neg (by rw [decide_eq_true_eq]; omega), if_pos (by rw [beq_iff_eq, h4]; rfl), if_neg (by decide)]
          · rw [errM_neg he (fun h => h.2.2.elim h3 h4), if_neg (by rw [decide_eq_true_eq]; omega), if_neg (fun h => h4 (Int.natCast_eq_zero.1 (eq_of_beq h))), if_pos rfl]
      · rw [errM_neg he (fun h => h2 h.2.1), if_neg (by rw [decide_eq_true_eq]; omega), if_pos rfl]
    · rw [errM_neg he (fun h => h1 h.1), if_neg (by rw [decide_eq_true_eq]; omega), if_pos rfl]
  · have hm : errM l = err l := by unfold errM; rw [if_neg he]
    rw [if_pos (by simpa using he), hm, if_neg he]
end Go.Ev.Huff
namespace Go.Ev.Huff

/-! ## The reference's Make, and rows held against one another -/
def pos (l : List Int) : Nat := l.countP (fun x => decide (0 < x))
theorem sgsLen_succ (l : List Int) (n : Nat) : (sgs l (n + 1)).length = (sgs l n).length + cnt l (n + 1) := by
  simp only [sgs, List.length_append]
  rw [sgn_length l (n + 1) l.length (Nat.le_refl _), List.take_length]
theorem sgsLen_cons (x : Int) (l : List Int) (hx : 0 ≤ x ∧ x ≤ 15) : ∀ n, (sgs (x :: l) n).length = (sgs l n).length + (if 0 < x ∧ x ≤ (n : Int) then 1 else 0)
  | 0 => by
    rw [if_neg (by omega)]; simp [sgs]
  | n + 1 => by
    rw [sgsLen_succ, sgsLen_succ, sgsLen_cons x l hx n]
    have hc : cnt (x :: l) (n + 1) = cnt l (n + 1) + if x = ((n + 1 : Nat) : Int) then 1 else 0 := by
      unfold cnt
      rw [List.count_cons]
      by_cases h : x = ((n + 1 : Nat) : Int)
      · rw [if_pos h, if_pos (by simpa using h)]
      · rw [if_neg h, if_neg (by simpa using h)]
    rw [hc]
    by_cases h : x = ((n + 1 : Nat) : Int)
    · rw [if_pos h, if_neg (by omega), if_pos (by omega)]; omega
    · rw [if_neg h]
      by_cases h2 : 0 < x ∧ x ≤ (n : Int)
      · rw [if_pos h2, if_pos (by omega)]; omega
      · rw [if_neg h2, if_neg (by omega)]; omega
theorem words_pos : ∀ {l : List Int}, Ok l → words l = pos l
  | [], _ => rfl
  | x :: l, h => by
    have hx := h x (List.mem_cons_self ..)
    have ih := words_pos (l := l) (fun y hy => h y (List.mem_cons_of_mem _ hy))
    unfold words at ih ⊢
    rw [sgsLen_cons x l hx 15, ih]
    unfold pos
    rw [List.countP_cons]
    by_cases h2 : 0 < x
    · rw [if_pos (by omega), if_pos (by simpa using h2)]
    · rw [if_neg (by omega), if_neg (by simpa using h2)]
theorem pos_take_succ {l : List Int} {i : Nat} (h : i < l.length) : pos (l.take (i + 1)) = pos (l.take i) + (if 0 < l.getD i 0 then 1 else 0) := by
  unfold pos
  rw [List.take_add_one, List.getElem?_eq_getElem h, List.countP_append]
  have e : l.getD i 0 = l[i] := by rw [List.getD_eq_getElem?_getD, List.getElem?_eq_getElem h]; rfl
  rw [e]
  congr 1
  simp [List.countP_cons]
theorem l14_1_spec {l : List Int} (hl : l.length ≤ 320) : ∀ (k i : Nat), l.length < i + k → i ≤ l.length →
    loopN g14_1 o14_1 b14_1 k (l, (pos (l.take i) : Int), (cnt (l.take i) 1 : Int), (i : Int), ()) = some (.inl (l, (pos l : Int), (cnt l 1 : Int), ())) := by
  intro k
  induction k with
  | zero => intro i h1 h2; omega
  | succ k ih =>
    intro i h1 h2
    rw [loopN_succ]
    generalize hL : loopN g14_1 o14_1 b14_1 k = L at ih ⊢
    unfold b14_1
    simp only [Int.toNat_natCast]
    rcases Nat.lt_or_ge i l.length with h | h
    · have hp : pos (l.take i) ≤ 320 := Nat.le_trans List.countP_le_length (by rw [List.length_take]; omega)
      have hc : cnt (l.take i) 1 ≤ 320 := Nat.le_trans List.count_le_length (by rw [List.length_take]; omega)
      have e3 : IntKind.wrap IntKind.i64 ((i : Int) + 1) = ((i + 1 : Nat) : Int) := by rw [wrap_i64 (by omega)]; omega
      have e4 : IntKind.wrap IntKind.i64 ((pos (l.take i) : Int) + 1) = ((pos (l.take i) + 1 : Nat) : Int) := by rw [wrap_i64 (by omega)]; omega
      have e5 : IntKind.wrap IntKind.i64 ((cnt (l.take i) 1 : Int) + 1) = ((cnt (l.take i) 1 + 1 : Nat) : Int) := by rw [wrap_i64 (by omega)]; omega
      have hps := pos_take_succ h
      have hcs : cnt (l.take (i + 1)) 1 = cnt (l.take i) 1 + (if l.getD i 0 = (1 : Int) then 1 else 0) := by
        unfold cnt; exact count_take_succ h 1
      have hI := ih (i + 1) (by omega) (by omega)
      rw [if_pos (by simp; omega), if_pos (by omega), if_pos (by omega)]
      by_cases hx : 0 < l.getD i 0
      · rw [if_pos (by rw [decide_eq_true_eq]; exact hx), if_pos (by omega), if_pos (by omega)]
        rw [if_pos hx] at hps
        by_cases h1' : l.getD i 0 = 1
        · rw [if_pos (by rw [beq_iff_eq]; exact h1')]
          rw [if_pos h1'] at hcs
          simp only [Option.bind_some, Sum.elim_inl]
          rw [e3, e4, e5]
          rw [hps, hcs] at hI
          exact hI
        · rw [if_neg (by rw [beq_iff_eq]; exact h1')]
          rw [if_neg h1'] at hcs
          simp only [Option.bind_some, Sum.elim_inl]
          rw [e3, e4]
          rw [hps, hcs] at hI
          exact hI
      · rw [if_neg (by rw [decide_eq_true_eq]; exact hx), if_pos (by omega), if_pos (by omega)]
        rw [if_neg hx] at hps
        have h1' : l.getD i 0 ≠ 1 := by
          intro e
          rw [e] at hx
          exact hx (by decide)
        rw [if_neg (by rw [beq_iff_eq]; exact h1')]
        rw [if_neg h1'] at hcs
        simp only [Option.bind_some, Sum.elim_inl]
        rw [e3]
        rw [hps, hcs] at hI
        exact hI
    · rw [if_neg (by simp; omega)]
      simp only [Option.bind_some, Sum.elim_inr]
      have : i = l.length := by omega
      subst this
      rw [List.take_length]
theorem f14_eqn (l : List Int) : f14 (l, ()) = some (errM l, ()) := by
  unfold f14
  rw [f10_eqn]
  rw [Option.bind_some]
  dsimp only
  by_cases he : err l = 0
  · obtain ⟨hl, hk, hs⟩ := err_ok he
    have g := l14_1_spec hl 18446744073709551616 0 (by omega) (by omega)
    rw [if_neg (by rw [he]; simp)]
    have g' : loopN g14_1 o14_1 b14_1 18446744073709551616 (l, 0, 0, 0, ()) = _ := g
    rw [show l14_1 = loopN g14_1 o14_1 b14_1 18446744073709551616 from rfl]
    generalize loopN g14_1 o14_1 b14_1 18446744073709551616 (l, 0, 0, 0, ()) = X at g' ⊢
    subst g'
    rw [Option.bind_some, Sum.elim_inl]
    dsimp only
    have e28 : f28 (l, ()) = some ((shr l : Int), ()) := by
      rcases f28_eqn l with ⟨h, _⟩ | ⟨_, h, _⟩ | ⟨_, _, h⟩
      · omega
      · exact absurd hk h
      · exact h
    rw [e28, Option.bind_some]
    dsimp only
    rw [← words_pos hk]
    by_cases h1 : shr l < 32768
    · rw [if_neg (by rw [beq_iff_eq]; omega)]
      by_cases h2 : 0 < words l
      · rw [if_neg (by rw [beq_iff_eq]; omega)]
        by_cases h3 : 1 < words l
        · rw [errM_pos he ⟨h1, h2, .inl h3⟩, if_neg (by rw [beq_iff_eq]; omega)]
        · rw [if_pos (by rw [beq_iff_eq]; omega)]
          by_cases h4 : cnt l 1 = 0
          · rw [errM_pos he ⟨h1, h2, .inr h4⟩, if_neg (by rw [beq_iff_eq]; omega)]
          · have hle : cnt l 1 ≤ words l := by
              unfold words
              have : ∀ n, 1 ≤ n → cnt l 1 ≤ (sgs l n).length := by
                intro n hn
                induction n with
                | zero => omega
                | succ n ih =>
                  rw [sgsLen_succ]
                  rcases Nat.eq_zero_or_pos n with h0 | h0
                  · subst h0; exact Nat.le_add_left _ _
                  · have := ih h0; omega
              exact this 15 (by omega)
            rw [errM_neg he (fun h => h.2.2.elim h3 h4), if_pos (by rw [beq_iff_eq]; omega)]
      · rw [errM_neg he (fun h => h2 h.2.1), if_pos (by rw [beq_iff_eq]; omega)]
    · rw [errM_neg he (fun h => h1 h.1), if_pos (by rw [beq_iff_eq]; omega)]
  · have hm : errM l = err l := by unfold errM; rw [if_neg he]
    rw [if_pos (by simpa using he), hm]
theorem l13_1_spec {l : List Int} (hl : l.length ≤ 100000) : ∀ (k i : Nat), l.length < i + k → i ≤ l.length →
    loopN g13_1 o13_1 b13_1 k (l, l, (i : Int), ()) = some (.inl ()) := by
  intro k
  induction k with
  | zero => intro i h1 h2; omega
  | succ k ih =>
    intro i h1 h2
    rw [loopN_succ]
    generalize hL : loopN g13_1 o13_1 b13_1 k = L at ih ⊢
    unfold b13_1
    simp only [Int.toNat_natCast]
    rcases Nat.lt_or_ge i l.length with h | h
    · have e3 : IntKind.wrap IntKind.i64 ((i : Int) + 1) = ((i + 1 : Nat) : Int) := by rw [wrap_i64 (by omega)]; omega
      rw [if_pos (by simp; omega), if_pos (by omega), if_pos (by omega), if_pos (by omega), if_pos (by omega), if_neg (by simp)]
      simp only [Option.bind_some, Sum.elim_inl]
      rw [e3]
      exact ih (i + 1) (by omega) (by omega)
    · rw [if_neg (by simp; omega)]
      simp only [Option.bind_some, Sum.elim_inr]
theorem f13_self {l : List Int} (hl : l.length ≤ 100000) : f13 (l, l, ()) = some (true, ()) := by
  unfold f13
  dsimp only
  rw [if_neg (by simp)]
  have g := l13_1_spec hl 18446744073709551616 0 (by omega) (by omega)
  have g' : loopN g13_1 o13_1 b13_1 18446744073709551616 (l, l, 0, ()) = _ := g
  rw [show l13_1 = loopN g13_1 o13_1 b13_1 18446744073709551616 from rfl]
  generalize loopN g13_1 o13_1 b13_1 18446744073709551616 (l, l, 0, ()) = X at g' ⊢
  subst g'
  rfl
theorem f8_eqn {l : List Int} (hl : l.length ≤ 100000) : f8 (l, ()) = some (l, ()) := by
  unfold f8
  dsimp only
  rw [if_pos (by omega), if_pos (.inr ⟨rfl, rfl⟩), if_pos rfl]
  rfl
end Go.Ev.Huff
