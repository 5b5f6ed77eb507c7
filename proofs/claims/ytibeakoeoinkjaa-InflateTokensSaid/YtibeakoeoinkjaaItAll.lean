/- Part of a proof about the given program: ItAll. -/
import Derived.Test.YtibeakoeoinkjaaArr
import Derived.Test.YtibeakoeoinkjaaF
import Derived.Test.YtibeakoeoinkjaaInflRd
namespace Go.Ev.Inflate

/-! ## Lengths: how many of each, and their share -/
def cnt (l : List Int) (n : Nat) : Nat := l.count (n : Int)
def shr : List Int → Nat
  | [] => 0
  | x :: l => (if 0 < x then 2 ^ (15 - x.toNat) else 0) + shr l
def Ok (l : List Int) : Prop := ∀ x ∈ l, 0 ≤ x ∧ x ≤ 15
theorem shr_append : ∀ a b : List Int, shr (a ++ b) = shr a + shr b
  | [], b => by simp [shr]
  | x :: a, b => by simp only [List.cons_append, shr, shr_append a b]; omega
theorem shr_le : ∀ l : List Int, shr l ≤ 32768 * l.length
  | [] => by simp [shr]
  | x :: l => by
    have := shr_le l
    have h : 2 ^ (15 - x.toNat) ≤ 32768 := by
      have : (2 : Nat) ^ (15 - x.toNat) ≤ 2 ^ 15 := Nat.pow_le_pow_right (by omega) (by omega)
      simpa using this
    simp only [shr, List.length_cons]
    split <;> omega
theorem shr_take_succ {l : List Int} {i : Nat} (h : i < l.length) : shr (l.take (i + 1)) = shr (l.take i) + (if 0 < l.getD i 0 then 2 ^ (15 - (l.getD i 0).toNat) else 0) := by
  rw [List.take_add_one, List.getElem?_eq_getElem h, shr_append]
  simp [shr, List.getD_eq_getElem?_getD, h]
theorem shr_take_le (l : List Int) (i : Nat) : shr (l.take i) ≤ shr l := by
  have : shr l = shr (l.take i) + shr (l.drop i) := by rw [← shr_append, List.take_append_drop]
  omega
theorem not_ok {l : List Int} {i : Nat} (h : i < l.length) (hx : ¬ (0 ≤ l.getD i 0 ∧ l.getD i 0 ≤ 15)) : ¬ Ok l := fun hk => by
  refine hx (hk _ ?_)
  rw [List.getD_eq_getElem?_getD, List.getElem?_eq_getElem h]
  exact List.getElem_mem _
theorem Ok.get {l : List Int} (h : Ok l) (i : Nat) : 0 ≤ l.getD i 0 ∧ l.getD i 0 ≤ 15 := by
  rw [List.getD_eq_getElem?_getD]
  rcases Nat.lt_or_ge i l.length with hi | hi
  · rw [List.getElem?_eq_getElem hi]; exact h _ (List.getElem_mem _)
  · rw [List.getElem?_eq_none hi]; simp
/-- What is told of lengths. -/
noncomputable def err (l : List Int) : Int := if 320 < l.length then 1 else open Classical in if Ok l then (if 32768 < shr l then 4 else 0) else 1
def C (l : List Int) : List Int := tab 16 (fun n => if n = 0 then 0 else (cnt l n : Int))

theorem fdiv32768 {x : Int} (h : 0 ≤ x ∧ x ≤ 15) : Int.fdiv 32768 (2 ^ (Min.min (Int.toNat x) 64)) = ((2 ^ (15 - x.toNat) : Nat) : Int) := by
  obtain ⟨n, rfl⟩ := Int.eq_ofNat_of_zero_le h.1
  have hn : n ≤ 15 := by omega
  have key : ∀ n : Nat, n ≤ 15 → Int.fdiv 32768 (2 ^ (Min.min (Int.toNat ((n : Nat) : Int)) 64)) = ((2 ^ (15 - (Int.toNat ((n : Nat) : Int))) : Nat) : Int) := by decide
  exact key n hn

theorem l41_spec {l : List Int} (hl : l.length ≤ 320) (res : List Int) : ∀ (k i : Nat), l.length < i + k → i ≤ l.length → (∀ j, j < i → 0 ≤ l.getD j 0 ∧ l.getD j 0 ≤ 15) →
    (Ok l ∧ loopN g41_1 o41_1 b41_1 k ((shr (l.take i) : Int), l, (l.length : Int), (i : Int), res, C (l.take i), ()) = some (.inl ((shr l : Int), res, C l, ()))) ∨
    (¬ Ok l ∧ ∃ c, loopN g41_1 o41_1 b41_1 k ((shr (l.take i) : Int), l, (l.length : Int), (i : Int), res, C (l.take i), ()) = some (.inr (.inl (1, c, ())))) := by
  intro k
  induction k with
  | zero => intro i h1 h2; omega
  | succ k ih =>
    intro i h1 h2 hb
    rw [loopN_succ]
    generalize hL : loopN g41_1 o41_1 b41_1 k = L at ih ⊢
    unfold b41_1
    simp only [Int.toNat_natCast]
    rcases Nat.lt_or_ge i l.length with h | h
    · rw [if_pos (by simp; omega), if_pos (by omega), if_pos (by omega)]
      by_cases hx : 0 ≤ l.getD i 0 ∧ l.getD i 0 ≤ 15
      · rw [if_neg (by rw [decide_eq_true_eq]; exact Int.not_lt.2 hx.1), if_neg (by rw [decide_eq_true_eq]; exact Int.not_lt.2 hx.2)]
        have hs1 := shr_take_succ h
        have hs2 := shr_le (l.take (i + 1))
        have hlt : (l.take (i + 1)).length ≤ 320 := by rw [List.length_take]; omega
        have hb' : ∀ j, j < i + 1 → 0 ≤ l.getD j 0 ∧ l.getD j 0 ≤ 15 := fun j hj => by
          by_cases e : j = i
          · rw [e]; exact hx
          · exact hb j (by omega)
        have e3 : IntKind.wrap IntKind.i64 ((i : Int) + 1) = ((i + 1 : Nat) : Int) := by rw [wrap_i64 (by omega)]; omega
        have hI := ih (i + 1) (by omega) (by omega) hb'
        obtain ⟨n, hn⟩ := Int.eq_ofNat_of_zero_le hx.1
        have hcl : cnt (l.take i) n ≤ 320 := Nat.le_trans List.count_le_length (by rw [List.length_take]; omega)
        by_cases hp : 0 < l.getD i 0
        · have hx16 : l.getD i 0 < 16 := by omega
          rw [if_pos (by rw [decide_eq_true_eq]; exact hp), if_pos hx.1, if_pos hx16, if_pos hx.1, if_pos hx16, if_neg (Int.not_lt.2 hx.1)]
          simp only [Option.bind_some, Sum.elim_inl]
          rw [if_pos hp] at hs1
          rw [fdiv32768 hx, e3]
          have e1 : IntKind.wrap IntKind.i64 ((shr (l.take i) : Int) + ((2 ^ (15 - (l.getD i 0).toNat) : Nat) : Int)) = ((shr (l.take (i + 1)) : Nat) : Int) := by
            rw [hs1]
            generalize (2 : Nat) ^ (15 - (l.getD i 0).toNat) = p at hs1
            rw [wrap_i64 (by omega)]; omega
          have e2 : (C (l.take i)).set (l.getD i 0).toNat (IntKind.wrap IntKind.i64 ((C (l.take i)).getD (l.getD i 0).toNat 0 + 1)) = C (l.take (i + 1)) := by
            unfold C
            rw [hn, Int.toNat_natCast, tab_get (by omega), tab_set, if_neg (by omega), wrap_i64 (by omega)]
            refine tab_ext fun j hj => ?_
            by_cases ej : j = n
            · subst ej
              rw [if_pos rfl, if_neg (by omega)]
              unfold cnt
              rw [count_take_succ h, hn, if_pos rfl]; omega
            · rw [if_neg ej]
              by_cases e0 : j = 0
              · rw [if_pos e0, if_pos e0]
              · rw [if_neg e0, if_neg e0]
                unfold cnt
                rw [count_take_succ h, hn, if_neg (by omega)]; omega
          rw [e1, e2]
          exact hI
        · rw [if_neg (by rw [decide_eq_true_eq]; exact hp)]
          simp only [Option.bind_some, Sum.elim_inl]
          rw [if_neg hp, Nat.add_zero] at hs1
          rw [e3]
          have e2 : C (l.take (i + 1)) = C (l.take i) := by
            unfold C
            refine tab_ext fun j hj => ?_
            by_cases e0 : j = 0
            · rw [if_pos e0, if_pos e0]
            · rw [if_neg e0, if_neg e0]
              unfold cnt
              rw [count_take_succ h, if_neg (by omega)]; omega
          rw [hs1, e2] at hI
          exact hI
      · refine .inr ⟨not_ok h hx, C (l.take i), ?_⟩
        by_cases h0 : l.getD i 0 < 0
        · rw [if_pos (by rw [decide_eq_true_eq]; exact h0)]; rfl
        · have h15 : 15 < l.getD i 0 := by omega
          rw [if_neg (by rw [decide_eq_true_eq]; exact h0), if_pos (by rw [decide_eq_true_eq]; exact h15)]; rfl
    · rw [if_neg (by simp; omega)]
      have : i = l.length := by omega
      subst this
      rw [List.take_length]
      refine .inl ⟨fun x hx => ?_, rfl⟩
      obtain ⟨j, hj, rfl⟩ := List.mem_iff_getElem.1 hx
      have := hb j hj
      rwa [List.getD_eq_getElem?_getD, List.getElem?_eq_getElem hj] at this
end Go.Ev.Inflate
namespace Go.Ev.Inflate

theorem f41_eqn (l : List Int) : ∃ c, f41 (l, ()) = some (c, err l, ()) ∧ (err l = 0 → c = C l ∧ l.length ≤ 320 ∧ Ok l ∧ shr l ≤ 32768) := by
  unfold f41 err
  simp only []
  by_cases hl : 320 < l.length
  · rw [if_pos (by rw [decide_eq_true_eq]; omega), if_pos hl]
    exact ⟨_, rfl, fun h => by cases h⟩
  · rw [if_neg (by rw [decide_eq_true_eq]; omega), if_neg hl]
    have h := l41_spec (l := l) (by omega) (List.replicate 16 0) 18446744073709551616 0 (by omega) (by omega) (fun j hj => by omega)
    have hC : C [] = List.replicate 16 0 := by decide
    rw [List.take_zero, hC] at h
    rw [show l41_1 = loopN g41_1 o41_1 b41_1 18446744073709551616 from rfl]
    rcases h with ⟨hk, h1⟩ | ⟨hk, c, h1⟩
    · have h1' : loopN g41_1 o41_1 b41_1 18446744073709551616 (0, l, (l.length : Int), 0, List.replicate 16 0, List.replicate 16 0, ()) = _ := h1
      rw [h1', if_pos hk]
      simp only [Option.bind_some, Sum.elim_inl]
      by_cases hs : 32768 < shr l
      · rw [if_pos (by rw [decide_eq_true_eq]; omega), if_pos hs]
        exact ⟨_, rfl, fun h => by cases h⟩
      · rw [if_neg (by rw [decide_eq_true_eq]; omega), if_neg hs]
        exact ⟨_, rfl, fun _ => ⟨rfl, by omega, hk, by omega⟩⟩
    · have h1' : loopN g41_1 o41_1 b41_1 18446744073709551616 (0, l, (l.length : Int), 0, List.replicate 16 0, List.replicate 16 0, ()) = _ := h1
      rw [h1', if_neg hk]
      exact ⟨_, rfl, fun h => by cases h⟩

end Go.Ev.Inflate
namespace Go.Ev.Inflate

/-! ## Words -/
def base (l : List Int) : Nat → Nat
  | 0 => 0
  | 1 => 0
  | n + 2 => 2 * (base l (n + 1) + cnt l (n + 1))
def code (l : List Int) (i : Nat) : Int := if 0 < l.getD i 0 then ((base l (l.getD i 0).toNat + cnt (l.take i) (l.getD i 0).toNat : Nat) : Int) else 0
def codes (l : List Int) : List Int := tab l.length (code l)

theorem cnt_le (l : List Int) (n : Nat) : cnt l n ≤ l.length := List.count_le_length
theorem base_le (l : List Int) : ∀ n, base l (n + 1) + 2 * l.length ≤ 2 ^ (n + 1) * l.length
  | 0 => by simp [base]
  | n + 1 => by
    have h1 := base_le l n
    have h2 := cnt_le l (n + 1)
    simp only [base]
    have e : 2 ^ (n + 1 + 1) * l.length = 2 ^ (n + 1) * l.length + 2 ^ (n + 1) * l.length := by
      rw [Nat.pow_succ 2 (n + 1), Nat.mul_comm _ 2, Nat.mul_assoc, Nat.two_mul]
    omega
theorem base_lim {l : List Int} (hl : l.length ≤ 320) {n : Nat} (hn : n ≤ 15) : base l n ≤ 10485760 := by
  cases n with
  | zero => simp [base]
  | succ n =>
    have h1 := base_le l n
    have h2 : 2 ^ (n + 1) * l.length ≤ 32768 * 320 := Nat.mul_le_mul (by
      have : (2 : Nat) ^ (n + 1) ≤ 2 ^ 15 := Nat.pow_le_pow_right (by omega) hn
      simpa using this) hl
    omega
theorem base_step {l : List Int} {n : Nat} (h : 1 ≤ n) : base l (n + 1) = 2 * (base l n + cnt l n) := by
  cases n with
  | zero => omega
  | succ n => rfl

/-! ## The program's words -/
theorem l34_1_spec {l : List Int} (hl : l.length ≤ 320) : ∀ (k n : Nat), 15 < n + k → 1 ≤ n → n ≤ 15 →
    loopN g34_1 o34_1 b34_1 k (l, (n : Int), C l, tab 16 (fun j => if j ≤ n then (base l j : Int) else 0), ()) = some (.inl (l, tab 16 (fun j => (base l j : Int)), ())) := by
  intro k
  induction k with
  | zero => intro n h1 h2 h3; omega
  | succ k ih =>
    intro n h1 h2 h3
    rw [loopN_succ]
    generalize hL : loopN g34_1 o34_1 b34_1 k = L at ih ⊢
    unfold b34_1
    simp only []
    rcases Nat.lt_or_ge n 15 with h | h
    · have e3 : IntKind.wrap IntKind.i64 ((n : Int) + 1) = ((n + 1 : Nat) : Int) := by rw [wrap_i64 (by omega)]; omega
      have h0 : (0 : Int) ≤ (n : Int) := by omega
      have h16 : (n : Int) < 16 := by omega
      rw [if_pos (by rw [decide_eq_true_eq]; omega), if_pos h0, if_pos h16, if_pos h0, if_pos h16, e3, if_pos (by omega), if_pos (by omega)]
      simp only [Option.bind_some, Sum.elim_inl, Int.toNat_natCast]
      have hb := base_lim hl (n := n) (by omega)
      have hc := cnt_le l n
      have e4 : IntKind.wrap IntKind.i64 (IntKind.wrap IntKind.i64 ((tab 16 (fun j => if j ≤ n then (base l j : Int) else 0)).getD n 0 + (C l).getD n 0) * 2) = (base l (n + 1) : Int) := by
        unfold C
        rw [tab_get (by omega), tab_get (by omega), if_pos (Nat.le_refl n), if_neg (by omega), base_step h2, wrap_i64 (n := (base l n : Int) + (cnt l n : Int)) (by omega), wrap_i64 (by omega)]
        omega
      have e5 : (tab 16 (fun j => if j ≤ n then (base l j : Int) else 0)).set (n + 1) (base l (n + 1) : Int) = tab 16 (fun j => if j ≤ n + 1 then (base l j : Int) else 0) := by
        rw [tab_set]
        refine tab_ext fun j hj => ?_
        by_cases ej : j = n + 1
        · rw [if_pos ej, if_pos (by omega), ej]
        · rw [if_neg ej]
          by_cases ej2 : j ≤ n
          · rw [if_pos ej2, if_pos (by omega)]
          · rw [if_neg ej2, if_neg (by omega)]
      have hI := ih (n + 1) (by omega) (by omega) (by omega)
      rw [← e5, ← e4] at hI
      exact hI
    · rw [if_neg (by rw [decide_eq_true_eq]; omega)]
      have : n = 15 := by omega
      subst this
      have e : tab 16 (fun j => if j ≤ 15 then (base l j : Int) else 0) = tab 16 (fun j => (base l j : Int)) := tab_ext fun j hj => by rw [if_pos (by omega)]
      rw [e]
      rfl

theorem l34_2_spec {l : List Int} (hl : l.length ≤ 320) (hk : Ok l) : ∀ (k s : Nat), l.length < s + k → s ≤ l.length →
    loopN g34_2 o34_2 b34_2 k (l, (l.length : Int), (s : Int), tab 16 (fun j => (base l j : Int) + if j = 0 then 0 else (cnt (l.take s) j : Int)), tab l.length (fun i => if i < s then code l i else 0), ()) = some (.inl (codes l, ())) := by
  intro k
  induction k with
  | zero => intro s h1 h2; omega
  | succ k ih =>
    intro s h1 h2
    rw [loopN_succ]
    generalize hL : loopN g34_2 o34_2 b34_2 k = L at ih ⊢
    unfold b34_2
    simp only [Int.toNat_natCast, if_true, Nat.zero_add, List.length_set, tab_length]
    rcases Nat.lt_or_ge s l.length with h | h
    · have hi0 : (0 : Int) ≤ (s : Int) := by omega
      have hi1 : (s : Int) < (l.length : Int) := by omega
      rw [if_pos (by rw [decide_eq_true_eq]; exact hi1), if_pos hi0, if_pos hi1]
      have hx := hk.get s
      have e3 : IntKind.wrap IntKind.i64 ((s : Int) + 1) = ((s + 1 : Nat) : Int) := by rw [wrap_i64 (by omega)]; omega
      have hI := ih (s + 1) (by omega) (by omega)
      obtain ⟨n, hn⟩ := Int.eq_ofNat_of_zero_le hx.1
      by_cases hp : 0 < l.getD s 0
      · have hx16 : l.getD s 0 < 16 := by omega
        rw [if_pos (by rw [decide_eq_true_eq]; exact hp), if_pos hx.1, if_pos hx16, if_pos hi0, if_pos hi1, if_pos hx.1, if_pos hx16, if_pos hx.1, if_pos hx16]
        simp only [Option.bind_some, Sum.elim_inl]
        have hb := base_lim hl (n := n) (by omega)
        have hc : cnt (l.take s) n ≤ 320 := Nat.le_trans (cnt_le _ _) (by rw [List.length_take]; omega)
        have hcode : code l s = (base l n : Int) + (cnt (l.take s) n : Int) := by
          unfold code
          rw [if_pos hp, hn, Int.toNat_natCast]; omega
        have e4 : (tab 16 (fun j => (base l j : Int) + if j = 0 then 0 else (cnt (l.take s) j : Int))).getD (l.getD s 0).toNat 0 = code l s := by
          rw [hn, Int.toNat_natCast, tab_get (by omega), if_neg (by omega), hcode]
        rw [e3, e4]
        have e5 : (tab 16 (fun j => (base l j : Int) + if j = 0 then 0 else (cnt (l.take s) j : Int))).set (l.getD s 0).toNat (IntKind.wrap IntKind.i64 (code l s + 1)) = tab 16 (fun j => (base l j : Int) + if j = 0 then 0 else (cnt (l.take (s + 1)) j : Int)) := by
          rw [hn, Int.toNat_natCast, tab_set, hcode, wrap_i64 (by omega)]
          refine tab_ext fun j hj => ?_
          by_cases ej : j = n
          · subst ej
            rw [if_pos rfl, if_neg (by omega)]
            unfold cnt
            rw [count_take_succ h, hn, if_pos rfl]; omega
          · rw [if_neg ej]
            by_cases e0 : j = 0
            · rw [if_pos e0, if_pos e0]
            · rw [if_neg e0, if_neg e0]
              unfold cnt
              rw [count_take_succ h, hn, if_neg (by omega)]; omega
        have e6 : (tab l.length (fun i => if i < s then code l i else 0)).set s (code l s) = tab l.length (fun i => if i < s + 1 then code l i else 0) := by
          rw [tab_set]
          refine tab_ext fun j hj => ?_
          by_cases ej : j = s
          · rw [if_pos ej, if_pos (by omega), ej]
          · rw [if_neg ej]
            by_cases ej2 : j < s
            · rw [if_pos ej2, if_pos (by omega)]
            · rw [if_neg ej2, if_neg (by omega)]
        rw [e5, e6]
        exact hI
      · rw [if_neg (by rw [decide_eq_true_eq]; exact hp)]
        simp only [Option.bind_some, Sum.elim_inl]
        rw [e3]
        have e5 : tab 16 (fun j => (base l j : Int) + if j = 0 then 0 else (cnt (l.take (s + 1)) j : Int)) = tab 16 (fun j => (base l j : Int) + if j = 0 then 0 else (cnt (l.take s) j : Int)) := by
          refine tab_ext fun j hj => ?_
          by_cases e0 : j = 0
          · rw [if_pos e0, if_pos e0]
          · rw [if_neg e0, if_neg e0]
            unfold cnt
            rw [count_take_succ h, if_neg (by omega)]; omega
        have e6 : tab l.length (fun i => if i < s + 1 then code l i else 0) = tab l.length (fun i => if i < s then code l i else 0) := by
          refine tab_ext fun j hj => ?_
          by_cases ej : j = s
          · rw [if_pos (by omega), if_neg (by omega), ej]
            unfold code
            rw [if_neg hp]
          · by_cases ej2 : j < s
            · rw [if_pos ej2, if_pos (by omega)]
            · rw [if_neg ej2, if_neg (by omega)]
        rw [e5, e6] at hI
        exact hI
    · rw [if_neg (by rw [decide_eq_true_eq]; omega)]
      have : s = l.length := by omega
      subst this
      have e : tab l.length (fun i => if i < l.length then code l i else 0) = codes l := tab_ext fun j hj => by rw [if_pos hj]
      rw [e]
      rfl

/-- The program's words. -/
theorem f34_eqn (l : List Int) : f34 (l, ()) = some (err l, (if err l = 0 then codes l else []), ()) := by
  obtain ⟨c, h1, h2⟩ := f41_eqn l
  unfold f34
  simp only []
  rw [h1]
  simp only [Option.bind_some]
  by_cases he : err l = 0
  · obtain ⟨rfl, hl, hk, _⟩ := h2 he
    rw [if_neg (by rw [he]; simp), if_pos he]
    have h := l34_1_spec hl 18446744073709551616 1 (by omega) (by omega) (by omega)
    have e0 : tab 16 (fun j => if j ≤ 1 then (base l j : Int) else 0) = List.replicate 16 0 := by
      rw [tab_zero]
      refine tab_ext fun j hj => ?_
      by_cases hj1 : j ≤ 1
      · rw [if_pos hj1]
        have : j = 0 ∨ j = 1 := by omega
        rcases this with rfl | rfl <;> rfl
      · rw [if_neg hj1]
    rw [e0] at h
    have h' : loopN g34_1 o34_1 b34_1 18446744073709551616 (l, 1, C l, List.replicate 16 0, ()) = _ := h
    rw [show l34_1 = loopN g34_1 o34_1 b34_1 18446744073709551616 from rfl, h']
    simp only [Option.bind_some, Sum.elim_inl, Int.toNat_natCast, List.length_replicate, if_true]
    rw [if_pos (by omega), if_pos (by omega)]
    have g := l34_2_spec hl hk 18446744073709551616 0 (by omega) (by omega)
    have e1 : tab 16 (fun j => (base l j : Int) + if j = 0 then 0 else (cnt (l.take 0) j : Int)) = tab 16 (fun j => (base l j : Int)) := tab_ext fun j hj => by
      by_cases h0 : j = 0
      · rw [if_pos h0]; omega
      · rw [if_neg h0, List.take_zero]; simp [cnt]
    have e2 : tab l.length (fun i => if i < 0 then code l i else 0) = List.replicate l.length 0 := by
      rw [tab_zero]
      exact tab_ext fun j hj => by rw [if_neg (by omega)]
    rw [e1, e2] at g
    have g' : loopN g34_2 o34_2 b34_2 18446744073709551616 (l, (l.length : Int), 0, tab 16 (fun j => (base l j : Int)), List.replicate l.length 0, ()) = _ := g
    rw [show l34_2 = loopN g34_2 o34_2 b34_2 18446744073709551616 from rfl, g', he]
    simp
  · rw [if_pos (by simpa using he), if_neg he]
end Go.Ev.Inflate
namespace Go.Ev.Inflate

/-! ## The table -/
def sgn (l : List Int) (n s : Nat) : List Int := ((List.range s).filter fun i => l.getD i 0 == (n : Int)).map fun (i : Nat) => (i : Int)
def sgs (l : List Int) : Nat → List Int
  | 0 => []
  | n + 1 => sgs l n ++ sgn l (n + 1) l.length
def shN (l : List Int) : Nat → Nat
  | 0 => 0
  | n + 1 => shN l n + cnt l (n + 1) * 2 ^ (15 - (n + 1))
def cntT (l : List Int) (n s : Nat) : List Int := tab 16 (fun j => if j = 0 then 0 else if j ≤ n then (cnt l j : Int) else if j = n + 1 then (cnt (l.take s) j : Int) else 0)
theorem sgn_succ (l : List Int) (n s : Nat) : sgn l n (s + 1) = sgn l n s ++ (if l.getD s 0 = (n : Int) then [(s : Int)] else []) := by
  unfold sgn
  rw [List.range_succ, List.filter_append, List.map_append]
  congr 1
  by_cases h : l.getD s 0 = (n : Int)
  · rw [List.filter_cons_of_pos (by rw [h]; simp), if_pos h]; rfl
  · rw [List.filter_cons_of_neg (by simpa using h), if_neg h]; rfl
theorem sgn_length (l : List Int) (n : Nat) : ∀ s, s ≤ l.length → (sgn l n s).length = cnt (l.take s) n
  | 0, _ => by simp [sgn, cnt]
  | s + 1, h => by
    rw [sgn_succ, List.length_append, sgn_length l n s (by omega)]
    unfold cnt
    rw [count_take_succ (by omega)]
    split <;> simp
theorem pow15 {n : Nat} (h : n < 15) : (2 : Nat) ^ (15 - (n + 1)) ≤ 16384 := by
  have : (2 : Nat) ^ (15 - (n + 1)) ≤ 2 ^ 14 := Nat.pow_le_pow_right (by omega) (by omega)
  simpa using this

theorem l29_2_spec {l : List Int} (hl : l.length ≤ 320) {n : Nat} (hn : n < 15) (a : Int) (lens cds sg : List Int) (sh : Nat) (hsh : sh ≤ 100000000) (hsg : sg.length ≤ 100000) : ∀ (k s : Nat), l.length < s + k → s ≤ l.length →
    loopN g29_2 o29_2 b29_2 k (l, ((sh + cnt (l.take s) (n + 1) * 2 ^ (15 - (n + 1)) : Nat) : Int), (n : Int), a, l, (l.length : Int), (s : Int), cntT l n s, lens, cds, sg ++ sgn l (n + 1) s, ()) =
      some (.inl (l, ((sh + cnt l (n + 1) * 2 ^ (15 - (n + 1)) : Nat) : Int), a, cntT l n l.length, lens, cds, sg ++ sgn l (n + 1) l.length, ())) := by
  intro k
  induction k with
  | zero => intro s h1 h2; omega
  | succ k ih =>
    intro s h1 h2
    rw [loopN_succ]
    generalize hL : loopN g29_2 o29_2 b29_2 k = L at ih ⊢
    unfold b29_2
    simp only [Int.toNat_natCast, if_true, List.drop_zero, List.take_length, one_of]
    rcases Nat.lt_or_ge s l.length with h | h
    · have hi0 : (0 : Int) ≤ (s : Int) := by omega
      have hi1 : (s : Int) < (l.length : Int) := by omega
      have e3 : IntKind.wrap IntKind.i64 ((s : Int) + 1) = ((s + 1 : Nat) : Int) := by rw [wrap_i64 (by omega)]; omega
      have e4 : IntKind.wrap IntKind.i64 ((n : Int) + 1) = ((n + 1 : Nat) : Int) := by rw [wrap_i64 (by omega)]; omega
      have hI := ih (s + 1) (by omega) (by omega)
      have hc : cnt (l.take s) (n + 1) ≤ 320 := Nat.le_trans (cnt_le _ _) (by rw [List.length_take]; omega)
      have hcs : cnt (l.take (s + 1)) (n + 1) = cnt (l.take s) (n + 1) + if l.getD s 0 = ((n + 1 : Nat) : Int) then 1 else 0 := count_take_succ h _
      have hp := pow15 hn
      rw [if_pos (by rw [decide_eq_true_eq]; exact hi1), if_pos hi0, if_pos hi1, e4]
      by_cases hx : l.getD s 0 = ((n + 1 : Nat) : Int)
      · have hgl : (sg ++ sgn l (n + 1) s).length ≤ 200000 := by
          rw [List.length_append, sgn_length _ _ _ h2]; omega
        have hx0 : (0 : Int) ≤ l.getD s 0 := by omega
        have hx16 : l.getD s 0 < 16 := by omega
        rw [if_pos hx] at hcs
        rw [if_pos (by rw [hx]; simp), if_pos (by rw [List.length_singleton]; omega), if_pos hx0, if_pos hx16, if_pos hx0, if_pos hx16, if_neg (Int.not_lt.2 hx0)]
        simp only [Option.bind_some, Sum.elim_inl]
        rw [fdiv32768 ⟨hx0, by omega⟩, e3]
        have e5 : IntKind.wrap IntKind.i64 (((sh + cnt (l.take s) (n + 1) * 2 ^ (15 - (n + 1)) : Nat) : Int) + ((2 ^ (15 - (l.getD s 0).toNat) : Nat) : Int)) = ((sh + cnt (l.take (s + 1)) (n + 1) * 2 ^ (15 - (n + 1)) : Nat) : Int) := by
          rw [hx, Int.toNat_natCast, hcs, Nat.add_mul, Nat.one_mul]
          generalize (2 : Nat) ^ (15 - (n + 1)) = p at hp
          have : cnt (l.take s) (n + 1) * p ≤ 320 * 16384 := Nat.mul_le_mul hc hp
          generalize cnt (l.take s) (n + 1) * p = q at this
          rw [wrap_i64 (by omega)]; omega
        have e6 : (cntT l n s).set (l.getD s 0).toNat (IntKind.wrap IntKind.i64 ((cntT l n s).getD (l.getD s 0).toNat 0 + 1)) = cntT l n (s + 1) := by
          rw [hx, Int.toNat_natCast]
          unfold cntT
          rw [tab_get (by omega), tab_set, if_neg (by omega), if_neg (by omega), if_pos rfl, wrap_i64 (by omega)]
          refine tab_ext fun j hj => ?_
          by_cases ej : j = n + 1
          · subst ej
            rw [if_pos rfl, if_neg (by omega), if_neg (by omega), if_pos rfl, hcs]; omega
          · rw [if_neg ej]
            by_cases e0 : j = 0
            · rw [if_pos e0, if_pos e0]
            · rw [if_neg e0, if_neg e0]
              by_cases e1 : j ≤ n
              · rw [if_pos e1, if_pos e1]
              · rw [if_neg e1, if_neg e1, if_neg ej, if_neg ej]
        have e7 : sg ++ sgn l (n + 1) s ++ [(s : Int)] = sg ++ sgn l (n + 1) (s + 1) := by rw [sgn_succ, if_pos hx, List.append_assoc]
        rw [e5, e6, e7]
        exact hI
      · rw [if_neg (by simpa using hx)]
        simp only [Option.bind_some, Sum.elim_inl]
        rw [if_neg hx] at hcs
        have e6 : cntT l n (s + 1) = cntT l n s := by
          unfold cntT
          refine tab_ext fun j hj => ?_
          by_cases ej : j = n + 1
          · subst ej
            rw [if_neg (by omega), if_neg (by omega), if_pos rfl, if_neg (by omega), if_neg (by omega), if_pos rfl, hcs]; omega
          · rw [if_neg ej, if_neg ej]
        have e7 : sgn l (n + 1) (s + 1) = sgn l (n + 1) s := by rw [sgn_succ, if_neg hx, List.append_nil]
        rw [e6, e7, hcs, Nat.add_zero] at hI
        rw [e3]
        exact hI
    · rw [if_neg (by rw [decide_eq_true_eq]; omega)]
      have : s = l.length := by omega
      subst this
      rw [List.take_length]
      rfl
end Go.Ev.Inflate
namespace Go.Ev.Inflate

def cntU (l : List Int) (n : Nat) : List Int := tab 16 (fun j => if j = 0 then 0 else if j ≤ n then (cnt l j : Int) else 0)
theorem sgs_length (l : List Int) : ∀ n, (sgs l n).length ≤ n * l.length
  | 0 => by simp [sgs]
  | n + 1 => by
    have h1 := sgs_length l n
    have h2 := cnt_le l (n + 1)
    simp only [sgs, List.length_append, sgn_length l (n + 1) l.length (Nat.le_refl _), List.take_length, Nat.add_mul, Nat.one_mul]
    omega
theorem shN_le (l : List Int) (hl : l.length ≤ 320) : ∀ n, n ≤ 15 → shN l n ≤ n * 5242880
  | 0, _ => by simp [shN]
  | n + 1, h => by
    have h1 := shN_le l hl n (by omega)
    have h2 := cnt_le l (n + 1)
    have h3 : cnt l (n + 1) * 2 ^ (15 - (n + 1)) ≤ 320 * 16384 := Nat.mul_le_mul (by omega) (pow15 (by omega))
    simp only [shN, Nat.add_mul]
    omega

theorem l29_1_spec {l : List Int} (hl : l.length ≤ 320) (lens cds : List Int) : ∀ (k n : Nat), 15 < n + k → n ≤ 15 →
    loopN g29_1 o29_1 b29_1 k (l, (shN l n : Int), (n : Int), cntU l n, lens, cds, sgs l n, ()) = some (.inl ((shN l 15 : Int), cntU l 15, lens, cds, sgs l 15, ())) := by
  intro k
  induction k with
  | zero => intro n h1 h2; omega
  | succ k ih =>
    intro n h1 h2
    rw [loopN_succ]
    generalize hL : loopN g29_1 o29_1 b29_1 k = L at ih ⊢
    unfold b29_1
    simp only [if_true]
    rcases Nat.lt_or_ge n 15 with h | h
    · rw [if_pos (by rw [decide_eq_true_eq]; omega)]
      have hsl := sgs_length l n
      have hshl := shN_le l hl n (by omega)
      have hm : n * l.length ≤ 15 * 320 := Nat.mul_le_mul (by omega) hl
      have g := l29_2_spec hl h (n : Int) lens cds (sgs l n) (shN l n) (by omega) (by omega) 18446744073709551616 0 (by omega) (by omega)
      have e0 : cnt (l.take 0) (n + 1) = 0 := by simp [cnt]
      have e1 : sgn l (n + 1) 0 = [] := by simp [sgn]
      have e2 : cntT l n 0 = cntU l n := by
        unfold cntT cntU
        refine tab_ext fun j hj => ?_
        by_cases h0 : j = 0
        · rw [if_pos h0, if_pos h0]
        · rw [if_neg h0, if_neg h0]
          by_cases h1 : j ≤ n
          · rw [if_pos h1, if_pos h1]
          · rw [if_neg h1, if_neg h1, List.take_zero]; simp [cnt]
      rw [e0, Nat.zero_mul, Nat.add_zero, e1, List.append_nil, e2] at g
      have g' : loopN g29_2 o29_2 b29_2 18446744073709551616 (l, (shN l n : Int), (n : Int), (n : Int), l, (l.length : Int), 0, cntU l n, lens, cds, sgs l n, ()) = _ := g
      rw [show l29_2 = loopN g29_2 o29_2 b29_2 18446744073709551616 from rfl, g']
      simp only [Option.bind_some, Sum.elim_inl]
      have e3 : IntKind.wrap IntKind.i64 ((n : Int) + 1) = ((n + 1 : Nat) : Int) := by rw [wrap_i64 (by omega)]; omega
      have e4 : cntT l n l.length = cntU l (n + 1) := by
        unfold cntT cntU
        refine tab_ext fun j hj => ?_
        by_cases h0 : j = 0
        · rw [if_pos h0, if_pos h0]
        · rw [if_neg h0, if_neg h0, List.take_length]
          by_cases h1 : j ≤ n
          · rw [if_pos h1, if_pos (by omega)]
          · rw [if_neg h1]
            by_cases h2 : j = n + 1
            · rw [if_pos h2, if_pos (by omega)]
            · rw [if_neg h2, if_neg (by omega)]
      rw [e3, e4]
      exact ih (n + 1) (by omega) (by omega)
    · rw [if_neg (by rw [decide_eq_true_eq]; omega)]
      have : n = 15 := by omega
      subst this
      rfl
end Go.Ev.Inflate
namespace Go.Ev.Inflate

/-- Share by value. -/
theorem shN_cons (x : Int) (l : List Int) (hx : 0 ≤ x ∧ x ≤ 15) : ∀ n, shN (x :: l) n = shN l n + (if 0 < x ∧ x ≤ (n : Int) then 2 ^ (15 - x.toNat) else 0)
  | 0 => by
    rw [if_neg (by omega)]; simp [shN]
  | n + 1 => by
    simp only [shN, shN_cons x l hx n]
    have hc : cnt (x :: l) (n + 1) = cnt l (n + 1) + if x = ((n + 1 : Nat) : Int) then 1 else 0 := by
      unfold cnt
      rw [List.count_cons]
      by_cases h : x = ((n + 1 : Nat) : Int)
      · rw [if_pos h, if_pos (by simpa using h)]
      · rw [if_neg h, if_neg (by simpa using h)]
    rw [hc, Nat.add_mul]
    by_cases h : x = ((n + 1 : Nat) : Int)
    · rw [if_pos h, if_neg (by omega), if_pos (by omega), h, Int.toNat_natCast, Nat.one_mul]; omega
    · rw [if_neg h, Nat.zero_mul]
      by_cases h2 : 0 < x ∧ x ≤ (n : Int)
      · rw [if_pos h2, if_pos (by omega)]; omega
      · rw [if_neg h2, if_neg (by omega)]; omega
theorem shN_shr : ∀ {l : List Int}, Ok l → shN l 15 = shr l
  | [], _ => by simp [shr, shN, cnt]
  | x :: l, h => by
    have hx := h x (List.mem_cons_self ..)
    rw [shN_cons x l hx 15, shN_shr (fun y hy => h y (List.mem_cons_of_mem _ hy))]
    simp only [shr]
    by_cases h2 : 0 < x
    · rw [if_pos h2, if_pos (by omega)]; omega
    · rw [if_neg h2, if_neg (by omega)]; omega
end Go.Ev.Inflate
namespace Go.Ev.Inflate

/-- How many have a word. -/
def words (l : List Int) : Nat := (sgs l 15).length
theorem cntU_C (l : List Int) : cntU l 15 = C l := by
  unfold cntU C
  refine tab_ext fun j hj => ?_
  by_cases h0 : j = 0
  · rw [if_pos h0, if_pos h0]
  · rw [if_neg h0, if_neg h0, if_pos (by omega)]
theorem f35_eqn {l : List Int} (hl : l.length ≤ 100000) : f35 (l, ()) = some (l, ()) := by
  unfold f35
  have e : List.take 0 (List.drop 0 (List.replicate 0 (0 : Int))) = [] := rfl
  simp only [e, List.nil_append, if_true]
  by_cases h : l.length = 0
  · have hn : l = [] := List.eq_nil_of_length_eq_zero h
    subst hn
    rfl
  · rw [if_neg h, if_pos (by omega)]
/-- May a table be? -/
noncomputable def errM (l : List Int) : Int := if err l = 0 then (if shr l < 32768 ∧ 0 < words l ∧ (1 < words l ∨ cnt l 1 = 0) then 4 else 0) else err l
theorem err_ok {l : List Int} (h : err l = 0) : l.length ≤ 320 ∧ Ok l ∧ shr l ≤ 32768 := by
  obtain ⟨c, _, h2⟩ := f41_eqn l
  obtain ⟨_, h3⟩ := h2 h
  exact h3
theorem errM_pos {l : List Int} (he : err l = 0) (h : shr l < 32768 ∧ 0 < words l ∧ (1 < words l ∨ cnt l 1 = 0)) : errM l = 4 := by
  unfold errM; rw [if_pos he, if_pos h]
theorem errM_neg {l : List Int} (he : err l = 0) (h : ¬ (shr l < 32768 ∧ 0 < words l ∧ (1 < words l ∨ cnt l 1 = 0))) : errM l = 0 := by
  unfold errM; rw [if_pos he, if_neg h]
theorem f29_eqn (l : List Int) : f29 (l, ()) = if errM l = 0 then some (.inr (0, C l, l, codes l, sgs l 15, ())) else some (.inl (errM l, ())) := by
  unfold f29
  rw [f34_eqn]
  simp only [Option.bind_some]
  by_cases he : err l = 0
  · obtain ⟨hl, hk, hs⟩ := err_ok he
    rw [if_neg (by rw [he]; simp), if_pos he, f35_eqn (by omega)]
    simp only [Option.bind_some, List.drop_zero, List.take_length]
    have g := l29_1_spec hl l (codes l) 18446744073709551616 0 (by omega) (by omega)
    have e0 : cntU l 0 = List.replicate 16 0 := by
      rw [tab_zero]
      exact tab_ext fun j hj => by
        by_cases h0 : j = 0
        · rw [if_pos h0]
        · rw [if_neg h0, if_neg (by omega)]
    rw [e0, cntU_C, shN_shr hk] at g
    have g' : loopN g29_1 o29_1 b29_1 18446744073709551616 (l, 0, 0, List.replicate 16 0, l, codes l, [], ()) = _ := g
    rw [show l29_1 = loopN g29_1 o29_1 b29_1 18446744073709551616 from rfl]
    generalize loopN g29_1 o29_1 b29_1 18446744073709551616 (l, 0, 0, List.replicate 16 0, l, codes l, [], ()) = X at g' ⊢
    subst g'
    rw [Option.bind_some, Sum.elim_inl]
    dsimp only
    rw [if_pos (trivial : True)]
    have ec : (C l).getD 1 0 = (cnt l 1 : Int) := by unfold C; rw [tab_get (by omega), if_neg (by omega)]
    have hwd : (sgs l 15).length = words l := rfl
    rw [ec, hwd]
    by_cases h1 : shr l < 32768
    · rw [if_pos (by rw [decide_eq_true_eq]; omega)]
      by_cases h2 : 0 < words l
      · rw [if_pos (by rw [decide_eq_true_eq]; omega)]
        by_cases h3 : 1 < words l
        · rw [errM_pos he ⟨h1, h2, .inl h3⟩, if_pos (by rw [decide_eq_true_eq]; omega), if_neg (by decide)]
        · by_cases h4 : cnt l 1 = 0
          · rw [errM_pos he ⟨h1, h2, .inr h4⟩, if_neg (by rw [decide_eq_true_eq]; omega), if_pos (by rw [beq_iff_eq, h4]; rfl), if_neg (by decide)]
          · rw [errM_neg he (fun h => h.2.2.elim h3 h4), if_neg (by rw [decide_eq_true_eq]; omega), if_neg (fun h => h4 (Int.natCast_eq_zero.1 (eq_of_beq h))), if_pos rfl]
      · rw [errM_neg he (fun h => h2 h.2.1), if_neg (by rw [decide_eq_true_eq]; omega), if_pos rfl]
    · rw [errM_neg he (fun h => h1 h.1), if_neg (by rw [decide_eq_true_eq]; omega), if_pos rfl]
  · have hm : errM l = err l := by unfold errM; rw [if_neg he]
    rw [if_pos (by simpa using he), hm, if_neg he]
end Go.Ev.Inflate
namespace Go.Ev.Inflate

/-! # Which sign a word is -/
theorem sgn_get (l : List Int) (n : Nat) : ∀ s0, s0 ≤ l.length → ∀ k, k < cnt (l.take s0) n → ∃ s, s < s0 ∧ (sgn l n s0).getD k 0 = (s : Int) ∧ l.getD s 0 = (n : Int) ∧ cnt (l.take s) n = k
  | 0, _, k, h => by simp [cnt] at h
  | s0 + 1, h0, k, h => by
    have hl := sgn_length l n s0 (by omega)
    rw [sgn_succ]
    by_cases c : k < cnt (l.take s0) n
    · obtain ⟨s, h1, h2, h3, h4⟩ := sgn_get l n s0 (by omega) k c
      refine ⟨s, by omega, ?_, h3, h4⟩
      rw [List.getD_eq_getElem?_getD, List.getElem?_append_left (by rw [hl]; exact c), ← List.getD_eq_getElem?_getD]
      exact h2
    · have hc : cnt (l.take (s0 + 1)) n = cnt (l.take s0) n + if l.getD s0 0 = (n : Int) then 1 else 0 := count_take_succ (by omega) _
      by_cases e : l.getD s0 0 = (n : Int)
      · rw [if_pos e] at hc
        refine ⟨s0, by omega, ?_, e, by omega⟩
        rw [if_pos e, List.getD_eq_getElem?_getD, List.getElem?_append_right (by rw [hl]; omega), hl, show k - cnt (l.take s0) n = 0 by omega]
        rfl
      · rw [if_neg e] at hc
        omega
theorem cnt_take_le (l : List Int) (n : Nat) {i j : Nat} (h : i ≤ j) : cnt (l.take i) n ≤ cnt (l.take j) n := by
  unfold cnt
  have e : l.take j = l.take i ++ (l.take j).drop i := by
    conv => lhs; rw [← List.take_append_drop i (l.take j), List.take_take, Nat.min_eq_left h]
  rw [e, List.count_append]
  omega
theorem cnt_take_lt {l : List Int} {n s j : Nat} (hs : s < l.length) (h : l.getD s 0 = (n : Int)) (hj : s < j) : cnt (l.take s) n < cnt (l.take j) n := by
  have hc : cnt (l.take (s + 1)) n = cnt (l.take s) n + if l.getD s 0 = (n : Int) then 1 else 0 := count_take_succ hs _
  rw [if_pos h] at hc
  have := cnt_take_le l n (i := s + 1) (j := j) (by omega)
  omega
theorem sgn_at {l : List Int} {n s : Nat} (hs : s < l.length) (h : l.getD s 0 = (n : Int)) : cnt (l.take s) n < cnt l n ∧ (sgn l n l.length).getD (cnt (l.take s) n) 0 = (s : Int) := by
  have h1 := cnt_take_lt hs h hs
  rw [List.take_length] at h1
  refine ⟨h1, ?_⟩
  obtain ⟨t, t1, t2, t3, t4⟩ := sgn_get l n l.length (Nat.le_refl _) (cnt (l.take s) n) (by rw [List.take_length]; exact h1)
  rw [t2]
  rcases Nat.lt_trichotomy s t with e | e | e
  · have := cnt_take_lt hs h e; omega
  · rw [e]
  · have := cnt_take_lt t1 t3 e; omega
/-- The sign of a word of so many bits. -/
def look (l : List Int) (n v : Nat) : Option Int := if base l n ≤ v ∧ v - base l n < cnt l n then some ((sgn l n l.length).getD (v - base l n) 0) else none
theorem code_of {l : List Int} {n s : Nat} (hn : 1 ≤ n) (h : l.getD s 0 = (n : Int)) : code l s = ((base l n + cnt (l.take s) n : Nat) : Int) := by
  unfold code
  rw [h, if_pos (by omega), Int.toNat_natCast]
theorem look_some {l : List Int} {n v : Nat} (hn : 1 ≤ n) {x : Int} (h : look l n v = some x) : ∃ s, s < l.length ∧ x = (s : Int) ∧ l.getD s 0 = (n : Int) ∧ code l s = (v : Int) := by
  unfold look at h
  by_cases c : base l n ≤ v ∧ v - base l n < cnt l n
  · rw [if_pos c] at h
    obtain ⟨s, h1, h2, h3, h4⟩ := sgn_get l n l.length (Nat.le_refl _) (v - base l n) (by rw [List.take_length]; exact c.2)
    refine ⟨s, h1, ?_, h3, ?_⟩
    · rw [← h2]; exact (Option.some.inj h).symm
    · rw [code_of hn h3, h4]; omega
  · rw [if_neg c] at h; cases h
theorem look_at {l : List Int} {n s : Nat} (hn : 1 ≤ n) (hs : s < l.length) (h : l.getD s 0 = (n : Int)) {v : Nat} (hv : code l s = (v : Int)) : look l n v = some (s : Int) := by
  obtain ⟨h1, h2⟩ := sgn_at hs h
  rw [code_of hn h] at hv
  unfold look
  rw [if_pos (by omega), show v - base l n = cnt (l.take s) n by omega, h2]
theorem sgs_prefix (l : List Int) (n : Nat) : ∀ d, ∃ t, sgs l (n + d) = sgs l n ++ t
  | 0 => ⟨[], by rw [List.append_nil]; rfl⟩
  | d + 1 => by
    obtain ⟨t, h⟩ := sgs_prefix l n d
    exact ⟨t ++ sgn l (n + d + 1) l.length, by rw [show n + (d + 1) = (n + d) + 1 from rfl, sgs, h, List.append_assoc]⟩
theorem sgs_get {l : List Int} {n : Nat} (hn : n + 1 ≤ 15) {k : Nat} (hk : k < cnt l (n + 1)) : (sgs l n).length + k < (sgs l 15).length ∧ (sgs l 15).getD ((sgs l n).length + k) 0 = (sgn l (n + 1) l.length).getD k 0 := by
  obtain ⟨t, h⟩ := sgs_prefix l (n + 1) (15 - (n + 1))
  rw [show n + 1 + (15 - (n + 1)) = 15 by omega] at h
  have hl : (sgn l (n + 1) l.length).length = cnt l (n + 1) := by rw [sgn_length l (n + 1) l.length (Nat.le_refl _), List.take_length]
  rw [h, sgs, List.length_append, List.length_append, hl]
  refine ⟨by omega, ?_⟩
  rw [List.getD_eq_getElem?_getD, List.append_assoc, List.getElem?_append_right (by omega), show (sgs l n).length + k - (sgs l n).length = k by omega, List.getElem?_append_left (by rw [hl]; exact hk), ← List.getD_eq_getElem?_getD]
theorem sgs_step (l : List Int) (n : Nat) : (sgs l (n + 1)).length = (sgs l n).length + cnt l (n + 1) := by
  rw [sgs, List.length_append, sgn_length l (n + 1) l.length (Nat.le_refl _), List.take_length]
theorem C_get (l : List Int) {n : Nat} (h1 : 1 ≤ n) (h2 : n ≤ 15) : (C l).getD n 0 = (cnt l n : Int) := by
  unfold C
  rw [tab_get (by omega), if_neg (by omega)]

/-! # A word is read -/
def readR (l b : List Int) : Nat → Nat → Nat → Nat → Option (Int × Int) × Nat
  | 0, _, p, _ => (none, p)
  | r + 1, n, p, v => if p + 1 ≤ 8 * b.length then (match look l n (2 * v + bitsAt b p 1) with | some s => (some (s, 0), p + 1) | none => readR l b r (n + 1) (p + 1) (2 * v + bitsAt b p 1)) else (some (0, 6), p)
theorem or_bit {v : Nat} (hv : v < 100000000) {x : Nat} (hx : x < 2) : IntKind.wrap .i64 (((BitVec.ofInt 64 (IntKind.wrap .i64 ((v : Int) * 2)) ||| BitVec.ofInt 64 (x : Int)).toNat : Nat) : Int) = ((2 * v + x : Nat) : Int) := by
  rw [wrap_i64 (n := (v : Int) * 2) (by omega), show (v : Int) * 2 = ((v * 2 ^ 1 : Nat) : Int) by omega, or64 (by omega) (by omega), Nat.or_comm, or_split v (by omega : x < 2 ^ 1), wrap_i64 (by omega)]
  omega
theorem b37_b_2_eqn (l : List Int) (v f at' : Int) {n : Nat} (h1 : 1 ≤ n) (h2 : n ≤ 15) (k : Int) (x7 x8 x9 : List Int) (b' : List Int) (a w m : Int) :
    b37_b_2 (v, f, at', (n : Int), k, C l, x7, x8, x9, b', a, w, m, ()) = some (.inl (v, f, at', (n : Int), k, decide (0 ≤ k ∧ k < (cnt l n : Int)), C l, x7, x8, x9, b', a, w, m, ())) := by
  unfold b37_b_2
  dsimp only
  by_cases c : 0 ≤ k
  · rw [if_pos (decide_eq_true c), if_pos (by omega), if_pos (by omega), if_pos rfl, Int.toNat_natCast, C_get l h1 h2]
    refine congrArg (fun q => some (Sum.inl (v, f, at', (n : Int), k, q, C l, x7, x8, x9, b', a, w, m, ()))) ?_
    rw [Bool.eq_iff_iff, decide_eq_true_eq, decide_eq_true_eq]
    exact ⟨fun h => ⟨c, h⟩, fun h => h.2⟩
  · rw [if_neg (fun h => c (of_decide_eq_true h)), if_pos rfl]
    refine congrArg (fun q => some (Sum.inl (v, f, at', (n : Int), k, q, C l, x7, x8, x9, b', a, w, m, ()))) ?_
    rw [decide_eq_false (fun h => c h.1)]
theorem l37_b_1_spec {l : List Int} (hl : l.length ≤ 320) {b : List Int} (hb : IsB b) (hbl : b.length ≤ 100000) (x7 x8 : List Int) : ∀ (r k n p v f : Nat), n + r = 15 → r < k → p ≤ 8 * b.length → v < 2 ^ n → 2 * f = base l (n + 1) →
    loopN g37_b_1 o37_b_1 b37_b_1 k ((v : Int), (f : Int), (((sgs l n).length : Nat) : Int), ((n + 1 : Nat) : Int), C l, x7, x8, sgs l 15, b, ((ra p : Nat) : Int), ((rw' b p : Nat) : Int), ((rm p : Nat) : Int), ()) =
      (match readR l b r (n + 1) p v with
      | (none, p') => some (.inl (C l, x7, x8, sgs l 15, b, ((ra p' : Nat) : Int), ((rw' b p' : Nat) : Int), ((rm p' : Nat) : Int), ()))
      | (some (s, e), p') => some (.inr (.inl (s, e, C l, x7, x8, sgs l 15, b, ((ra p' : Nat) : Int), ((rw' b p' : Nat) : Int), ((rm p' : Nat) : Int), ())))) := by
  intro r
  induction r with
  | zero =>
    intro k n p v f h1 h2 h3 h4 h5
    obtain ⟨k, rfl⟩ : ∃ j, k = j + 1 := ⟨k - 1, by omega⟩
    rw [loopN_succ]
    generalize loopN g37_b_1 o37_b_1 b37_b_1 k = L
    unfold b37_b_1
    dsimp only
    rw [if_neg (by rw [decide_eq_true_eq]; omega), if_pos rfl]
    rfl
  | succ r ih =>
    intro k n p v f h1 h2 h3 h4 h5
    obtain ⟨k, rfl⟩ : ∃ j, k = j + 1 := ⟨k - 1, by omega⟩
    have ih := ih k
    rw [loopN_succ]
    generalize hL : loopN g37_b_1 o37_b_1 b37_b_1 k = L at ih ⊢
    unfold b37_b_1 readR
    dsimp only
    have hp15 : (2 : Nat) ^ n ≤ 32768 := by
      have : (2 : Nat) ^ n ≤ 2 ^ 15 := Nat.pow_le_pow_right (by omega) (by omega)
      simpa using this
    have hbs := base_lim hl (n := n + 1) (by omega)
    have hcn := cnt_le l (n + 1)
    have hsl := sgs_length l n
    have hsl' : n * l.length ≤ 15 * 320 := Nat.mul_le_mul (by omega) hl
    rw [if_pos (by rw [decide_eq_true_eq]; omega)]
    by_cases c : p + 1 ≤ 8 * b.length
    · have hx := bitsAt_lt b p 1
      have hf := f25_eqn hb hbl (p := p) (n := 1) (by omega) c
      generalize bitsAt b p 1 = x at hx hf ⊢
      have hx' : x < 2 := hx
      have hf' : f25 (1, b, ((ra p : Nat) : Int), ((rw' b p : Nat) : Int), ((rm p : Nat) : Int), ()) = _ := hf
      rw [if_pos c, hf', Option.bind_some]
      dsimp only
      rw [if_neg (by decide), if_pos rfl, or_bit (by omega) hx']
      have w1 : IntKind.wrap .i64 ((f : Int) * 2) = ((base l (n + 1) : Nat) : Int) := by rw [wrap_i64 (by omega)]; omega
      rw [w1]
      have w2 : IntKind.wrap .i64 (((2 * v + x : Nat) : Int) - ((base l (n + 1) : Nat) : Int)) = ((2 * v + x : Nat) : Int) - ((base l (n + 1) : Nat) : Int) := wrap_i64 (by omega)
      rw [w2, b37_b_2_eqn l _ _ _ (by omega) (by omega), Option.bind_some, Sum.elim_inl]
      dsimp only
      by_cases c2 : base l (n + 1) ≤ 2 * v + x ∧ 2 * v + x - base l (n + 1) < cnt l (n + 1)
      · have hk : look l (n + 1) (2 * v + x) = some ((sgn l (n + 1) l.length).getD (2 * v + x - base l (n + 1)) 0) := by unfold look; rw [if_pos c2]
        obtain ⟨g1, g2⟩ := sgs_get (l := l) (n := n) (by omega) c2.2
        have w3 : IntKind.wrap .i64 ((((sgs l n).length : Nat) : Int) + (((2 * v + x : Nat) : Int) - ((base l (n + 1) : Nat) : Int))) = (((sgs l n).length + (2 * v + x - base l (n + 1)) : Nat) : Int) := by rw [wrap_i64 (by omega)]; omega
        rw [hk, if_pos (by rw [decide_eq_true_eq]; omega), w3, if_pos (by omega), if_pos (by omega), if_pos rfl, Int.toNat_natCast, Nat.zero_add, g2]
        rfl
      · have hk : look l (n + 1) (2 * v + x) = none := by unfold look; rw [if_neg c2]
        have w3 : IntKind.wrap .i64 (((base l (n + 1) : Nat) : Int) + (cnt l (n + 1) : Int)) = ((base l (n + 1) + cnt l (n + 1) : Nat) : Int) := by rw [wrap_i64 (by omega)]; omega
        have w4 : IntKind.wrap .i64 ((((sgs l n).length : Nat) : Int) + (cnt l (n + 1) : Int)) = (((sgs l (n + 1)).length : Nat) : Int) := by rw [sgs_step, wrap_i64 (by omega)]; omega
        rw [hk, if_neg (by rw [decide_eq_true_eq]; omega), if_pos (by omega), if_pos (by omega), if_pos (by omega), if_pos (by omega), if_pos rfl, Int.toNat_natCast, C_get l (by omega) (by omega), w3, w4, Option.bind_some, Sum.elim_inl, show IntKind.wrap .i64 (((n + 1 : Nat) : Int) + 1) = ((n + 1 + 1 : Nat) : Int) by rw [wrap_i64 (by omega)]; omega]
        exact ih (n + 1) (p + 1) (2 * v + x) (base l (n + 1) + cnt l (n + 1)) (by omega) (by omega) c (by rw [Nat.pow_succ]; omega) (base_step (by omega)).symm
    · have hf := f25_more (b := b) hbl (p := p) (n := 1) h3 (by omega) (by omega)
      have hf' : f25 (1, b, ((ra p : Nat) : Int), ((rw' b p : Nat) : Int), ((rm p : Nat) : Int), ()) = _ := hf
      rw [if_neg c, hf', Option.bind_some]
      dsimp only
      rw [if_pos (by decide), if_pos rfl]
      rfl
def readH (l b : List Int) (p : Nat) : Int × Int × Nat := match readR l b 15 1 p 0 with | (none, p') => (0, 4, p') | (some (s, e), p') => (s, e, p')
theorem f37_b_eqn {l : List Int} (hl : l.length ≤ 320) {b : List Int} (hb : IsB b) (hbl : b.length ≤ 100000) (x7 x8 : List Int) {p : Nat} (hp : p ≤ 8 * b.length) :
    f37_b (C l, x7, x8, sgs l 15, b, ((ra p : Nat) : Int), ((rw' b p : Nat) : Int), ((rm p : Nat) : Int), ()) = some ((readH l b p).1, (readH l b p).2.1, C l, x7, x8, sgs l 15, b, ((ra ((readH l b p).2.2) : Nat) : Int), ((rw' b ((readH l b p).2.2) : Nat) : Int), ((rm ((readH l b p).2.2) : Nat) : Int), ()) := by
  have h := l37_b_1_spec hl hb hbl x7 x8 15 18446744073709551616 0 p 0 0 rfl (by omega) hp (by decide) rfl
  have h' : loopN g37_b_1 o37_b_1 b37_b_1 18446744073709551616 (0, 0, 0, 1, C l, x7, x8, sgs l 15, b, ((ra p : Nat) : Int), ((rw' b p : Nat) : Int), ((rm p : Nat) : Int), ()) = _ := h
  unfold f37_b readH
  dsimp only
  rw [if_pos rfl, show l37_b_1 = loopN g37_b_1 o37_b_1 b37_b_1 18446744073709551616 from rfl, h']
  generalize readR l b 15 (0 + 1) p 0 = q
  obtain ⟨o, p'⟩ := q
  cases o with
  | none =>
    dsimp only
    rw [Option.bind_some, Sum.elim_inl, if_pos rfl]
  | some o =>
    obtain ⟨s, e⟩ := o
    dsimp only
    rw [Option.bind_some, Sum.elim_inr, Sum.elim_inl, if_pos rfl]
theorem readR_le (l b : List Int) : ∀ (r n p v : Nat), p ≤ 8 * b.length → p ≤ (readR l b r n p v).2 ∧ (readR l b r n p v).2 ≤ 8 * b.length
  | 0, n, p, v, h => ⟨Nat.le_refl _, h⟩
  | r + 1, n, p, v, h => by
    unfold readR
    by_cases c : p + 1 ≤ 8 * b.length
    · rw [if_pos c]
      cases look l n (2 * v + bitsAt b p 1) with
      | some s => exact ⟨Nat.le_succ _, c⟩
      | none =>
        have := readR_le l b r (n + 1) (p + 1) (2 * v + bitsAt b p 1) c
        exact ⟨by dsimp only; omega, this.2⟩
    · rw [if_neg c]
      exact ⟨Nat.le_refl _, h⟩
theorem readH_le (l b : List Int) {p : Nat} (h : p ≤ 8 * b.length) : p ≤ (readH l b p).2.2 ∧ (readH l b p).2.2 ≤ 8 * b.length := by
  have := readR_le l b 15 1 p 0 h
  unfold readH
  generalize readR l b 15 1 p 0 = q at this ⊢
  obtain ⟨o, p'⟩ := q
  cases o with
  | none => exact this
  | some o => exact this
/-- Where it isn't told that there are no more, there is one bit less. -/
theorem readH_lt (l b : List Int) (p : Nat) : (readH l b p).2.1 = 6 ∨ p < (readH l b p).2.2 := by
  unfold readH readR
  by_cases c : p + 1 ≤ 8 * b.length
  · rw [if_pos c]
    right
    cases look l 1 (2 * 0 + bitsAt b p 1) with
    | some s => exact Nat.lt_succ_self _
    | none =>
      have := readR_le l b 14 (1 + 1) (p + 1) (2 * 0 + bitsAt b p 1) c
      dsimp only
      generalize readR l b 14 (1 + 1) (p + 1) (2 * 0 + bitsAt b p 1) = q at this ⊢
      obtain ⟨o, p'⟩ := q
      cases o with
      | none => dsimp only at this ⊢; omega
      | some o => dsimp only at this ⊢; omega
  · rw [if_neg c]
    exact .inl rfl
end Go.Ev.Inflate
