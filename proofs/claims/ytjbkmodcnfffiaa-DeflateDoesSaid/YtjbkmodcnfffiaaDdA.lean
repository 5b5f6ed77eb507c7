/- Part of a proof about the given program: DdA. -/
import Derived.Test.YtjbkmodcnfffiaaBig
import Derived.Test.YtjbkmodcnfffiaaF
import Derived.KernelRfl
import Derived.Test.YtjbkmodcnfffiaaArr
namespace Go.Ev.Deflate
abbrev Tok := Int × Int × Int
def isT (t : Tok) : Bool := if t.2.1 = 0 then decide (t.2.2 = 0 ∧ 0 ≤ t.1 ∧ t.1 ≤ 255) else decide (t.1 = 0 ∧ 3 ≤ t.2.1 ∧ t.2.1 ≤ 258 ∧ 1 ≤ t.2.2 ∧ t.2.2 ≤ 32768)
theorem isT_iff (t : Tok) : isT t = true ↔ (t.2.1 = 0 ∧ t.2.2 = 0 ∧ 0 ≤ t.1 ∧ t.1 ≤ 255) ∨ (t.1 = 0 ∧ 3 ≤ t.2.1 ∧ t.2.1 ≤ 258 ∧ 1 ≤ t.2.2 ∧ t.2.2 ≤ 32768) := by
  unfold isT
  by_cases h : t.2.1 = 0
  · rw [if_pos h, decide_eq_true_eq]; omega
  · rw [if_neg h, decide_eq_true_eq]; omega
theorem f36_eqn (x n k : Int) : f36 (x, n, k, ()) = some (isT (x, n, k), ()) := by
  unfold f36 isT
  dsimp only
  by_cases h1 : n = 0
  · rw [if_pos (beq_iff_eq.2 h1), if_pos h1]
    unfold b36_1
    dsimp only
    by_cases h2 : k = 0
    · rw [if_pos (beq_iff_eq.2 h2)]
      by_cases h3 : 0 ≤ x
      · rw [if_pos (decide_eq_true h3), Option.bind_some, Sum.elim_inl]
        refine congrArg (fun q => some (q, ())) ?_
        rw [Bool.eq_iff_iff, decide_eq_true_eq, decide_eq_true_eq]; omega
      · rw [if_neg (fun h => h3 (of_decide_eq_true h)), Option.bind_some, Sum.elim_inl, decide_eq_false (fun h => h3 h.2.1)]
    · rw [if_neg (fun h => h2 (beq_iff_eq.1 h)), Option.bind_some, Sum.elim_inl, decide_eq_false (fun h => h2 h.1)]
  · rw [if_neg (fun h => h1 (beq_iff_eq.1 h)), if_neg h1]
    by_cases h3 : 3 ≤ n
    · rw [if_pos (decide_eq_true h3)]
      by_cases h4 : n ≤ 258
      · rw [if_pos (decide_eq_true h4)]
        by_cases h5 : 1 ≤ k
        · rw [if_pos (decide_eq_true h5)]
          by_cases h6 : k ≤ 32768
          · rw [if_pos (decide_eq_true h6)]
            refine congrArg (fun q => some (q, ())) ?_
            rw [Bool.eq_iff_iff, beq_iff_eq, decide_eq_true_eq]; omega
          · rw [if_neg (fun h => h6 (of_decide_eq_true h)), decide_eq_false (fun h => h6 h.2.2.2.2)]
        · rw [if_neg (fun h => h5 (of_decide_eq_true h)), decide_eq_false (fun h => h5 h.2.2.2.1)]
      · rw [if_neg (fun h => h4 (of_decide_eq_true h)), decide_eq_false (fun h => h4 h.2.2.1)]
    · rw [if_neg (fun h => h3 (of_decide_eq_true h)), decide_eq_false (fun h => h3 h.2.1)]
theorem drop_getD {α : Type} {l : List α} {i : Nat} (h : i < l.length) (d : α) : l.drop i = l.getD i d :: l.drop (i + 1) := by
  rw [List.getD_eq_getElem?_getD, List.getElem?_eq_getElem h]
  exact List.drop_eq_getElem_cons h
def cpy (back : Nat) : Nat → List Int → List Int
  | 0, o => o
  | n + 1, o => cpy back n (o ++ [o.getD (o.length - back) 0])
def exp (most : Int) : List Tok → List Int → List Int ⊕ Int
  | [], out => .inl out
  | t :: l, out => if t.2.2 > ((out.length : Nat) : Int) then .inr 4 else if ((out.length : Nat) : Int) + max t.2.1 1 > most then .inr 2 else
      exp most l (cpy t.2.2.toNat t.2.1.toNat (if t.2.1 = 0 then out ++ [t.1] else out))
theorem full {α : Type} (o : List α) : List.take o.length (List.drop 0 o) = o := by rw [List.drop_zero, List.take_length]
end Go.Ev.Deflate
namespace Go.Ev.Deflate
theorem f55_eqn {xs : List Int} (h : xs.length ≤ 140737488355328) : f55 (xs, ()) = some (xs, ()) := by
  unfold f55
  have e : List.take (0 : Nat) (List.drop (0 : Nat) (List.replicate (0 : Nat) (0 : Int))) ++ xs = xs := rfl
  simp only [Nat.zero_add]
  rw [e, if_pos h]
  simp only [if_true]
  by_cases h0 : xs.length = 0
  · rw [if_pos h0]
    have : xs = [] := List.eq_nil_of_length_eq_zero h0
    subst this
    exact amb_self (eq := go55.eq) go55.eq_refl _
  · rw [if_neg h0]
def outB (w m : Nat) (bs : List Int) : List Int := if 0 < m then bs ++ [((w % 256 : Nat) : Int)] else bs
def bitsAt (b : List Int) (p n : Nat) : Nat := valB b / 2 ^ p % 2 ^ n
end Go.Ev.Deflate
namespace Go.Ev.Deflate
end Go.Ev.Deflate
namespace Go.Ev.Deflate
end Go.Ev.Deflate
namespace Go.Ev.Deflate
def cnt (l : List Int) (n : Nat) : Nat := l.count (n : Int)
def shr : List Int → Nat
  | [] => 0
  | x :: l => (if 0 < x then 2 ^ (15 - x.toNat) else 0) + shr l
def Ok (l : List Int) : Prop := ∀ x ∈ l, 0 ≤ x ∧ x ≤ 15
theorem shr_append : ∀ a b : List Int, shr (a ++ b) = shr a + shr b
  | [], b => by simp [shr]
  | x :: a, b => by simp only [List.cons_append, shr, shr_append a b]; omega
theorem shr_le : ∀ l : List Int, shr l ≤ 32768 * l.length
  | [] => by simp [shr]
  | x :: l => by
    have := shr_le l
    have h : 2 ^ (15 - x.toNat) ≤ 32768 := by
      have : (2 : Nat) ^ (15 - x.toNat) ≤ 2 ^ 15 := Nat.pow_le_pow_right (by omega) (by omega)
      simpa using this
    simp only [shr, List.length_cons]
    split <;> omega
theorem shr_take_succ {l : List Int} {i : Nat} (h : i < l.length) : shr (l.take (i + 1)) = shr (l.take i) + (if 0 < l.getD i 0 then 2 ^ (15 - (l.getD i 0).toNat) else 0) := by
  rw [List.take_add_one, List.getElem?_eq_getElem h, shr_append]
  simp [shr, List.getD_eq_getElem?_getD, h]
theorem not_ok {l : List Int} {i : Nat} (h : i < l.length) (hx : ¬ (0 ≤ l.getD i 0 ∧ l.getD i 0 ≤ 15)) : ¬ Ok l := fun hk => by
  refine hx (hk _ ?_)
  rw [List.getD_eq_getElem?_getD, List.getElem?_eq_getElem h]
  exact List.getElem_mem _
theorem Ok.get {l : List Int} (h : Ok l) (i : Nat) : 0 ≤ l.getD i 0 ∧ l.getD i 0 ≤ 15 := by
  rw [List.getD_eq_getElem?_getD]
  rcases Nat.lt_or_ge i l.length with hi | hi
  · rw [List.getElem?_eq_getElem hi]; exact h _ (List.getElem_mem _)
  · rw [List.getElem?_eq_none hi]; simp
noncomputable def err (l : List Int) : Int := if 320 < l.length then 1 else open Classical in if Ok l then (if 32768 < shr l then 4 else 0) else 1
def C (l : List Int) : List Int := tab 16 (fun n => if n = 0 then 0 else (cnt l n : Int))
theorem fdiv32768 {x : Int} (h : 0 ≤ x ∧ x ≤ 15) : Int.fdiv 32768 (2 ^ (Min.min (Int.toNat x) 64)) = ((2 ^ (15 - x.toNat) : Nat) : Int) := by
  obtain ⟨n, rfl⟩ := Int.eq_ofNat_of_zero_le h.1
  have hn : n ≤ 15 := by omega
  have key : ∀ n : Nat, n ≤ 15 → Int.fdiv 32768 (2 ^ (Min.min (Int.toNat ((n : Nat) : Int)) 64)) = ((2 ^ (15 - (Int.toNat ((n : Nat) : Int))) : Nat) : Int) := by decide
  exact key n hn
theorem l67_spec {l : List Int} (hl : l.length ≤ 320) (res : List Int) : ∀ (k i : Nat), l.length < i + k → i ≤ l.length → (∀ j, j < i → 0 ≤ l.getD j 0 ∧ l.getD j 0 ≤ 15) →
    (Ok l ∧ loopN g67_1 o67_1 b67_1 k ((shr (l.take i) : Int), l, (l.length : Int), (i : Int), res, C (l.take i), ()) = some (.inl ((shr l : Int), res, C l, ()))) ∨
    (¬ Ok l ∧ ∃ c, loopN g67_1 o67_1 b67_1 k ((shr (l.take i) : Int), l, (l.length : Int), (i : Int), res, C (l.take i), ()) = some (.inr (.inl (1, c, ())))) := by
  intro k
  induction k with
  | zero => intro i h1 h2; omega
  | succ k ih =>
    intro i h1 h2 hb
    rw [loopN_succ]
    generalize hL : loopN g67_1 o67_1 b67_1 k = L at ih ⊢
    unfold b67_1
    simp only [Int.toNat_natCast]
    rcases Nat.lt_or_ge i l.length with h | h
    · rw [if_pos (by simp; omega), if_pos (by omega), if_pos (by omega)]
      by_cases hx : 0 ≤ l.getD i 0 ∧ l.getD i 0 ≤ 15
      · rw [if_neg (by rw [decide_eq_true_eq]; exact Int.not_lt.2 hx.1), if_neg (by rw [decide_eq_true_eq]; exact Int.not_lt.2 hx.2)]
        have hs1 := shr_take_succ h
        have hs2 := shr_le (l.take (i + 1))
        have hlt : (l.take (i + 1)).length ≤ 320 := by rw [List.length_take]; omega
        have hb' : ∀ j, j < i + 1 → 0 ≤ l.getD j 0 ∧ l.getD j 0 ≤ 15 := fun j hj => by
          by_cases e : j = i
          · rw [e]; exact hx
          · exact hb j (by omega)
        have e3 : IntKind.wrap IntKind.i64 ((i : Int) + 1) = ((i + 1 : Nat) : Int) := by rw [wrap_i64 (by omega)]; omega
        have hI := ih (i + 1) (by omega) (by omega) hb'
        obtain ⟨n, hn⟩ := Int.eq_ofNat_of_zero_le hx.1
        have hcl : cnt (l.take i) n ≤ 320 := Nat.le_trans List.count_le_length (by rw [List.length_take]; omega)
        by_cases hp : 0 < l.getD i 0
        · have hx16 : l.getD i 0 < 16 := by omega
          rw [if_pos (by rw [decide_eq_true_eq]; exact hp), if_pos hx.1, if_pos hx16, if_pos hx.1, if_pos hx16, if_neg (Int.not_lt.2 hx.1)]
          simp only [Option.bind_some, Sum.elim_inl]
          rw [if_pos hp] at hs1
          rw [fdiv32768 hx, e3]
          have e1 : IntKind.wrap IntKind.i64 ((shr (l.take i) : Int) + ((2 ^ (15 - (l.getD i 0).toNat) : Nat) : Int)) = ((shr (l.take (i + 1)) : Nat) : Int) := by
            rw [hs1]
            generalize (2 : Nat) ^ (15 - (l.getD i 0).toNat) = p at hs1
            rw [wrap_i64 (by omega)]; omega
          have e2 : (C (l.take i)).set (l.getD i 0).toNat (IntKind.wrap IntKind.i64 ((C (l.take i)).getD (l.getD i 0).toNat 0 + 1)) = C (l.take (i + 1)) := by
            unfold C
            rw [hn, Int.toNat_natCast, tab_get (by omega), tab_set, if_neg (by omega), wrap_i64 (by omega)]
            refine tab_ext fun j hj => ?_
            by_cases ej : j = n
            · subst ej
              rw [if_pos rfl, if_neg (by omega)]
              unfold cnt
              rw [count_take_succ h, hn, if_pos rfl]; omega
            · rw [if_neg ej]
              by_cases e0 : j = 0
              · rw [if_pos e0, if_pos e0]
              · rw [if_neg e0, if_neg e0]
                unfold cnt
                rw [count_take_succ h, hn, if_neg (by omega)]; omega
          rw [e1, e2]
          exact hI
        · rw [if_neg (by rw [decide_eq_true_eq]; exact hp)]
          simp only [Option.bind_some, Sum.elim_inl]
          rw [if_neg hp, Nat.add_zero] at hs1
          rw [e3]
          have e2 : C (l.take (i + 1)) = C (l.take i) := by
            unfold C
            refine tab_ext fun j hj => ?_
            by_cases e0 : j = 0
            · rw [if_pos e0, if_pos e0]
            · rw [if_neg e0, if_neg e0]
              unfold cnt
              rw [count_take_succ h, if_neg (by omega)]; omega
          rw [hs1, e2] at hI
          exact hI
      · refine .inr ⟨not_ok h hx, C (l.take i), ?_⟩
        by_cases h0 : l.getD i 0 < 0
        · rw [if_pos (by rw [decide_eq_true_eq]; exact h0)]; rfl
        · have h15 : 15 < l.getD i 0 := by omega
          rw [if_neg (by rw [decide_eq_true_eq]; exact h0), if_pos (by rw [decide_eq_true_eq]; exact h15)]; rfl
    · rw [if_neg (by simp; omega)]
      have : i = l.length := by omega
      subst this
      rw [List.take_length]
      refine .inl ⟨fun x hx => ?_, rfl⟩
      obtain ⟨j, hj, rfl⟩ := List.mem_iff_getElem.1 hx
      have := hb j hj
      rwa [List.getD_eq_getElem?_getD, List.getElem?_eq_getElem hj] at this
end Go.Ev.Deflate
namespace Go.Ev.Deflate
theorem f67_eqn (l : List Int) : ∃ c, f67 (l, ()) = some (c, err l, ()) ∧ (err l = 0 → c = C l ∧ l.length ≤ 320 ∧ Ok l ∧ shr l ≤ 32768) := by
  unfold f67 err
  simp only []
  by_cases hl : 320 < l.length
  · rw [if_pos (by rw [decide_eq_true_eq]; omega), if_pos hl]
    exact ⟨_, rfl, fun h => by cases h⟩
  · rw [if_neg (by rw [decide_eq_true_eq]; omega), if_neg hl]
    have h := l67_spec (l := l) (by omega) (List.replicate 16 0) 18446744073709551616 0 (by omega) (by omega) (fun j hj => by omega)
    have hC : C [] = List.replicate 16 0 := by decide
    rw [List.take_zero, hC] at h
    rw [show l67_1 = loopN g67_1 o67_1 b67_1 18446744073709551616 from rfl]
    rcases h with ⟨hk, h1⟩ | ⟨hk, c, h1⟩
    · have h1' : loopN g67_1 o67_1 b67_1 18446744073709551616 (0, l, (l.length : Int), 0, List.replicate 16 0, List.replicate 16 0, ()) = _ := h1
      rw [h1', if_pos hk]
      simp only [Option.bind_some, Sum.elim_inl]
      by_cases hs : 32768 < shr l
      · rw [if_pos (by rw [decide_eq_true_eq]; omega), if_pos hs]
        exact ⟨_, rfl, fun h => by cases h⟩
      · rw [if_neg (by rw [decide_eq_true_eq]; omega), if_neg hs]
        exact ⟨_, rfl, fun _ => ⟨rfl, by omega, hk, by omega⟩⟩
    · have h1' : loopN g67_1 o67_1 b67_1 18446744073709551616 (0, l, (l.length : Int), 0, List.replicate 16 0, List.replicate 16 0, ()) = _ := h1
      rw [h1', if_neg hk]
      exact ⟨_, rfl, fun h => by cases h⟩
end Go.Ev.Deflate
namespace Go.Ev.Deflate
def base (l : List Int) : Nat → Nat
  | 0 => 0
  | 1 => 0
  | n + 2 => 2 * (base l (n + 1) + cnt l (n + 1))
def code (l : List Int) (i : Nat) : Int := if 0 < l.getD i 0 then ((base l (l.getD i 0).toNat + cnt (l.take i) (l.getD i 0).toNat : Nat) : Int) else 0
def codes (l : List Int) : List Int := tab l.length (code l)
theorem cnt_le (l : List Int) (n : Nat) : cnt l n ≤ l.length := List.count_le_length
theorem base_le (l : List Int) : ∀ n, base l (n + 1) + 2 * l.length ≤ 2 ^ (n + 1) * l.length
  | 0 => by simp [base]
  | n + 1 => by
    have h1 := base_le l n
    have h2 := cnt_le l (n + 1)
    simp only [base]
    have e : 2 ^ (n + 1 + 1) * l.length = 2 ^ (n + 1) * l.length + 2 ^ (n + 1) * l.length := by
      rw [Nat.pow_succ 2 (n + 1), Nat.mul_comm _ 2, Nat.mul_assoc, Nat.two_mul]
    omega
theorem base_lim {l : List Int} (hl : l.length ≤ 320) {n : Nat} (hn : n ≤ 15) : base l n ≤ 10485760 := by
  cases n with
  | zero => simp [base]
  | succ n =>
    have h1 := base_le l n
    have h2 : 2 ^ (n + 1) * l.length ≤ 32768 * 320 := Nat.mul_le_mul (by
      have : (2 : Nat) ^ (n + 1) ≤ 2 ^ 15 := Nat.pow_le_pow_right (by omega) hn
      simpa using this) hl
    omega
theorem base_step {l : List Int} {n : Nat} (h : 1 ≤ n) : base l (n + 1) = 2 * (base l n + cnt l n) := by
  cases n with
  | zero => omega
  | succ n => rfl
theorem l51_1_spec {l : List Int} (hl : l.length ≤ 320) : ∀ (k n : Nat), 15 < n + k → 1 ≤ n → n ≤ 15 →
    loopN g51_1 o51_1 b51_1 k (l, (n : Int), C l, tab 16 (fun j => if j ≤ n then (base l j : Int) else 0), ()) = some (.inl (l, tab 16 (fun j => (base l j : Int)), ())) := by
  intro k
  induction k with
  | zero => intro n h1 h2 h3; omega
  | succ k ih =>
    intro n h1 h2 h3
    rw [loopN_succ]
    generalize hL : loopN g51_1 o51_1 b51_1 k = L at ih ⊢
    unfold b51_1
    simp only []
    rcases Nat.lt_or_ge n 15 with h | h
    · have e3 : IntKind.wrap IntKind.i64 ((n : Int) + 1) = ((n + 1 : Nat) : Int) := by rw [wrap_i64 (by omega)]; omega
      have h0 : (0 : Int) ≤ (n : Int) := by omega
      have h16 : (n : Int) < 16 := by omega
      rw [if_pos (by rw [decide_eq_true_eq]; omega), if_pos h0, if_pos h16, if_pos h0, if_pos h16, e3, if_pos (by omega), if_pos (by omega)]
      simp only [Option.bind_some, Sum.elim_inl, Int.toNat_natCast]
      have hb := base_lim hl (n := n) (by omega)
      have hc := cnt_le l n
      have e4 : IntKind.wrap IntKind.i64 (IntKind.wrap IntKind.i64 ((tab 16 (fun j => if j ≤ n then (base l j : Int) else 0)).getD n 0 + (C l).getD n 0) * 2) = (base l (n + 1) : Int) := by
        unfold C
        rw [tab_get (by omega), tab_get (by omega), if_pos (Nat.le_refl n), if_neg (by omega), base_step h2, wrap_i64 (n := (base l n : Int) + (cnt l n : Int)) (by omega), wrap_i64 (by omega)]
        omega
      have e5 : (tab 16 (fun j => if j ≤ n then (base l j : Int) else 0)).set (n + 1) (base l (n + 1) : Int) = tab 16 (fun j => if j ≤ n + 1 then (base l j : Int) else 0) := by
        rw [tab_set]
        refine tab_ext fun j hj => ?_
        by_cases ej : j = n + 1
        · rw [if_pos ej, if_pos (by omega), ej]
        · rw [if_neg ej]
          by_cases ej2 : j ≤ n
          · rw [if_pos ej2, if_pos (by omega)]
          · rw [if_neg ej2, if_neg (by omega)]
      have hI := ih (n + 1) (by omega) (by omega) (by omega)
      rw [← e5, ← e4] at hI
      exact hI
    · rw [if_neg (by rw [decide_eq_true_eq]; omega)]
      have : n = 15 := by omega
      subst this
      have e : tab 16 (fun j => if j ≤ 15 then (base l j : Int) else 0) = tab 16 (fun j => (base l j : Int)) := tab_ext fun j hj => by rw [if_pos (by omega)]
      rw [e]
      rfl
theorem l51_2_spec {l : List Int} (hl : l.length ≤ 320) (hk : Ok l) : ∀ (k s : Nat), l.length < s + k → s ≤ l.length →
    loopN g51_2 o51_2 b51_2 k (l, (l.length : Int), (s : Int), tab 16 (fun j => (base l j : Int) + if j = 0 then 0 else (cnt (l.take s) j : Int)), tab l.length (fun i => if i < s then code l i else 0), ()) = some (.inl (codes l, ())) := by
  intro k
  induction k with
  | zero => intro s h1 h2; omega
  | succ k ih =>
    intro s h1 h2
    rw [loopN_succ]
    generalize hL : loopN g51_2 o51_2 b51_2 k = L at ih ⊢
    unfold b51_2
    simp only [Int.toNat_natCast, if_true, Nat.zero_add, List.length_set, tab_length]
    rcases Nat.lt_or_ge s l.length with h | h
    · have hi0 : (0 : Int) ≤ (s : Int) := by omega
      have hi1 : (s : Int) < (l.length : Int) := by omega
      rw [if_pos (by rw [decide_eq_true_eq]; exact hi1), if_pos hi0, if_pos hi1]
      have hx := hk.get s
      have e3 : IntKind.wrap IntKind.i64 ((s : Int) + 1) = ((s + 1 : Nat) : Int) := by rw [wrap_i64 (by omega)]; omega
      have hI := ih (s + 1) (by omega) (by omega)
      obtain ⟨n, hn⟩ := Int.eq_ofNat_of_zero_le hx.1
      by_cases hp : 0 < l.getD s 0
      · have hx16 : l.getD s 0 < 16 := by omega
        rw [if_pos (by rw [decide_eq_true_eq]; exact hp), if_pos hx.1, if_pos hx16, if_pos hi0, if_pos hi1, if_pos hx.1, if_pos hx16, if_pos hx.1, if_pos hx16]
        simp only [Option.bind_some, Sum.elim_inl]
        have hb := base_lim hl (n := n) (by omega)
        have hc : cnt (l.take s) n ≤ 320 := Nat.le_trans (cnt_le _ _) (by rw [List.length_take]; omega)
        have hcode : code l s = (base l n : Int) + (cnt (l.take s) n : Int) := by
          unfold code
          rw [if_pos hp, hn, Int.toNat_natCast]; omega
        have e4 : (tab 16 (fun j => (base l j : Int) + if j = 0 then 0 else (cnt (l.take s) j : Int))).getD (l.getD s 0).toNat 0 = code l s := by
          rw [hn, Int.toNat_natCast, tab_get (by omega), if_neg (by omega), hcode]
        rw [e3, e4]
        have e5 : (tab 16 (fun j => (base l j : Int) + if j = 0 then 0 else (cnt (l.take s) j : Int))).set (l.getD s 0).toNat (IntKind.wrap IntKind.i64 (code l s + 1)) = tab 16 (fun j => (base l j : Int) + if j = 0 then 0 else (cnt (l.take (s + 1)) j : Int)) := by
          rw [hn, Int.toNat_natCast, tab_set, hcode, wrap_i64 (by omega)]
          refine tab_ext fun j hj => ?_
          by_cases ej : j = n
          · subst ej
            rw [if_pos rfl, if_neg (by omega)]
            unfold cnt
            rw [count_take_succ h, hn, if_pos rfl]; omega
          · rw [if_neg ej]
            by_cases e0 : j = 0
            · rw [if_pos e0, if_pos e0]
            · rw [if_neg e0, if_neg e0]
              unfold cnt
              rw [count_take_succ h, hn, if_neg (by omega)]; omega
        have e6 : (tab l.length (fun i => if i < s then code l i else 0)).set s (code l s) = tab l.length (fun i => if i < s + 1 then code l i else 0) := by
          rw [tab_set]
          refine tab_ext fun j hj => ?_
          by_cases ej : j = s
          · rw [if_pos ej, if_pos (by omega), ej]
          · rw [if_neg ej]
            by_cases ej2 : j < s
            · rw [if_pos ej2, if_pos (by omega)]
            · rw [if_neg ej2, if_neg (by omega)]
        rw [e5, e6]
        exact hI
      · rw [if_neg (by rw [decide_eq_true_eq]; exact hp)]
        simp only [Option.bind_some, Sum.elim_inl]
        rw [e3]
        have e5 : tab 16 (fun j => (base l j : Int) + if j = 0 then 0 else (cnt (l.take (s + 1)) j : Int)) = tab 16 (fun j => (base l j : Int) + if j = 0 then 0 else (cnt (l.take s) j : Int)) := by
          refine tab_ext fun j hj => ?_
          by_cases e0 : j = 0
          · rw [if_pos e0, if_pos e0]
          · rw [if_neg e0, if_neg e0]
            unfold cnt
            rw [count_take_succ h, if_neg (by omega)]; omega
        have e6 : tab l.length (fun i => if i < s + 1 then code l i else 0) = tab l.length (fun i => if i < s then code l i else 0) := by
          refine tab_ext fun j hj => ?_
          by_cases ej : j = s
          · rw [if_pos (by omega), if_neg (by omega), ej]
            unfold code
            rw [if_neg hp]
          · by_cases ej2 : j < s
            · rw [if_pos ej2, if_pos (by omega)]
            · rw [if_neg ej2, if_neg (by omega)]
        rw [e5, e6] at hI
        exact hI
    · rw [if_neg (by rw [decide_eq_true_eq]; omega)]
      have : s = l.length := by omega
      subst this
      have e : tab l.length (fun i => if i < l.length then code l i else 0) = codes l := tab_ext fun j hj => by rw [if_pos hj]
      rw [e]
      rfl
theorem f51_eqn (l : List Int) : f51 (l, ()) = some (err l, (if err l = 0 then codes l else []), ()) := by
  obtain ⟨c, h1, h2⟩ := f67_eqn l
  unfold f51
  simp only []
  rw [h1]
  simp only [Option.bind_some]
  by_cases he : err l = 0
  · obtain ⟨rfl, hl, hk, _⟩ := h2 he
    rw [if_neg (by rw [he]; simp), if_pos he]
    have h := l51_1_spec hl 18446744073709551616 1 (by omega) (by omega) (by omega)
    have e0 : tab 16 (fun j => if j ≤ 1 then (base l j : Int) else 0) = List.replicate 16 0 := by
      rw [tab_zero]
      refine tab_ext fun j hj => ?_
      by_cases hj1 : j ≤ 1
      · rw [if_pos hj1]
        have : j = 0 ∨ j = 1 := by omega
        rcases this with rfl | rfl <;> rfl
      · rw [if_neg hj1]
    rw [e0] at h
    have h' : loopN g51_1 o51_1 b51_1 18446744073709551616 (l, 1, C l, List.replicate 16 0, ()) = _ := h
    rw [show l51_1 = loopN g51_1 o51_1 b51_1 18446744073709551616 from rfl, h']
    simp only [Option.bind_some, Sum.elim_inl, Int.toNat_natCast, List.length_replicate, if_true]
    rw [if_pos (by omega), if_pos (by omega)]
    have g := l51_2_spec hl hk 18446744073709551616 0 (by omega) (by omega)
    have e1 : tab 16 (fun j => (base l j : Int) + if j = 0 then 0 else (cnt (l.take 0) j : Int)) = tab 16 (fun j => (base l j : Int)) := tab_ext fun j hj => by
      by_cases h0 : j = 0
      · rw [if_pos h0]; omega
      · rw [if_neg h0, List.take_zero]; simp [cnt]
    have e2 : tab l.length (fun i => if i < 0 then code l i else 0) = List.replicate l.length 0 := by
      rw [tab_zero]
      exact tab_ext fun j hj => by rw [if_neg (by omega)]
    rw [e1, e2] at g
    have g' : loopN g51_2 o51_2 b51_2 18446744073709551616 (l, (l.length : Int), 0, tab 16 (fun j => (base l j : Int)), List.replicate l.length 0, ()) = _ := g
    rw [show l51_2 = loopN g51_2 o51_2 b51_2 18446744073709551616 from rfl, g', he]
    simp
  · rw [if_pos (by simpa using he), if_neg he]
end Go.Ev.Deflate
namespace Go.Ev.Deflate
def sgn (l : List Int) (n s : Nat) : List Int := ((List.range s).filter fun i => l.getD i 0 == (n : Int)).map fun (i : Nat) => (i : Int)
def sgs (l : List Int) : Nat → List Int
  | 0 => []
  | n + 1 => sgs l n ++ sgn l (n + 1) l.length
def shN (l : List Int) : Nat → Nat
  | 0 => 0
  | n + 1 => shN l n + cnt l (n + 1) * 2 ^ (15 - (n + 1))
def cntT (l : List Int) (n s : Nat) : List Int := tab 16 (fun j => if j = 0 then 0 else if j ≤ n then (cnt l j : Int) else if j = n + 1 then (cnt (l.take s) j : Int) else 0)
theorem sgn_succ (l : List Int) (n s : Nat) : sgn l n (s + 1) = sgn l n s ++ (if l.getD s 0 = (n : Int) then [(s : Int)] else []) := by
  unfold sgn
  rw [List.range_succ, List.filter_append, List.map_append]
  congr 1
  by_cases h : l.getD s 0 = (n : Int)
  · rw [List.filter_cons_of_pos (by rw [h]; simp), if_pos h]; rfl
  · rw [List.filter_cons_of_neg (by simpa using h), if_neg h]; rfl
theorem sgn_length (l : List Int) (n : Nat) : ∀ s, s ≤ l.length → (sgn l n s).length = cnt (l.take s) n
  | 0, _ => by simp [sgn, cnt]
  | s + 1, h => by
    rw [sgn_succ, List.length_append, sgn_length l n s (by omega)]
    unfold cnt
    rw [count_take_succ (by omega)]
    split <;> simp
theorem pow15 {n : Nat} (h : n < 15) : (2 : Nat) ^ (15 - (n + 1)) ≤ 16384 := by
  have : (2 : Nat) ^ (15 - (n + 1)) ≤ 2 ^ 14 := Nat.pow_le_pow_right (by omega) (by omega)
  simpa using this
theorem l25_2_spec {l : List Int} (hl : l.length ≤ 320) {n : Nat} (hn : n < 15) (a : Int) (lens cds sg : List Int) (sh : Nat) (hsh : sh ≤ 100000000) (hsg : sg.length ≤ 100000) : ∀ (k s : Nat), l.length < s + k → s ≤ l.length →
    loopN g25_2 o25_2 b25_2 k (l, ((sh + cnt (l.take s) (n + 1) * 2 ^ (15 - (n + 1)) : Nat) : Int), (n : Int), a, l, (l.length : Int), (s : Int), cntT l n s, lens, cds, sg ++ sgn l (n + 1) s, ()) =
      some (.inl (l, ((sh + cnt l (n + 1) * 2 ^ (15 - (n + 1)) : Nat) : Int), a, cntT l n l.length, lens, cds, sg ++ sgn l (n + 1) l.length, ())) := by
  intro k
  induction k with
  | zero => intro s h1 h2; omega
  | succ k ih =>
    intro s h1 h2
    rw [loopN_succ]
    generalize hL : loopN g25_2 o25_2 b25_2 k = L at ih ⊢
    unfold b25_2
    simp only [Int.toNat_natCast, if_true, List.drop_zero, List.take_length, one_of]
    rcases Nat.lt_or_ge s l.length with h | h
    · have hi0 : (0 : Int) ≤ (s : Int) := by omega
      have hi1 : (s : Int) < (l.length : Int) := by omega
      have e3 : IntKind.wrap IntKind.i64 ((s : Int) + 1) = ((s + 1 : Nat) : Int) := by rw [wrap_i64 (by omega)]; omega
      have e4 : IntKind.wrap IntKind.i64 ((n : Int) + 1) = ((n + 1 : Nat) : Int) := by rw [wrap_i64 (by omega)]; omega
      have hI := ih (s + 1) (by omega) (by omega)
      have hc : cnt (l.take s) (n + 1) ≤ 320 := Nat.le_trans (cnt_le _ _) (by rw [List.length_take]; omega)
      have hcs : cnt (l.take (s + 1)) (n + 1) = cnt (l.take s) (n + 1) + if l.getD s 0 = ((n + 1 : Nat) : Int) then 1 else 0 := count_take_succ h _
      have hp := pow15 hn
      rw [if_pos (by rw [decide_eq_true_eq]; exact hi1), if_pos hi0, if_pos hi1, e4]
      by_cases hx : l.getD s 0 = ((n + 1 : Nat) : Int)
      · have hgl : (sg ++ sgn l (n + 1) s).length ≤ 200000 := by
          rw [List.length_append, sgn_length _ _ _ h2]; omega
        have hx0 : (0 : Int) ≤ l.getD s 0 := by omega
        have hx16 : l.getD s 0 < 16 := by omega
        rw [if_pos hx] at hcs
        rw [if_pos (by rw [hx]; simp), if_pos (by rw [List.length_singleton]; omega), if_pos hx0, if_pos hx16, if_pos hx0, if_pos hx16, if_neg (Int.not_lt.2 hx0)]
        simp only [Option.bind_some, Sum.elim_inl]
        rw [fdiv32768 ⟨hx0, by omega⟩, e3]
        have e5 : IntKind.wrap IntKind.i64 (((sh + cnt (l.take s) (n + 1) * 2 ^ (15 - (n + 1)) : Nat) : Int) + ((2 ^ (15 - (l.getD s 0).toNat) : Nat) : Int)) = ((sh + cnt (l.take (s + 1)) (n + 1) * 2 ^ (15 - (n + 1)) : Nat) : Int) := by
          rw [hx, Int.toNat_natCast, hcs, Nat.add_mul, Nat.one_mul]
          generalize (2 : Nat) ^ (15 - (n + 1)) = p at hp
          have : cnt (l.take s) (n + 1) * p ≤ 320 * 16384 := Nat.mul_le_mul hc hp
          generalize cnt (l.take s) (n + 1) * p = q at this
          rw [wrap_i64 (by omega)]; omega
        have e6 : (cntT l n s).set (l.getD s 0).toNat (IntKind.wrap IntKind.i64 ((cntT l n s).getD (l.getD s 0).toNat 0 + 1)) = cntT l n (s + 1) := by
          rw [hx, Int.toNat_natCast]
          unfold cntT
          rw [tab_get (by omega), tab_set, if_neg (by omega), if_neg (by omega), if_pos rfl, wrap_i64 (by omega)]
          refine tab_ext fun j hj => ?_
          by_cases ej : j = n + 1
          · subst ej
            rw [if_pos rfl, if_neg (by omega), if_neg (by omega), if_pos rfl, hcs]; omega
          · rw [if_neg ej]
            by_cases e0 : j = 0
            · rw [if_pos e0, if_pos e0]
            · rw [if_neg e0, if_neg e0]
              by_cases e1 : j ≤ n
              · rw [if_pos e1, if_pos e1]
              · rw [if_neg e1, if_neg e1, if_neg ej, if_neg ej]
        have e7 : sg ++ sgn l (n + 1) s ++ [(s : Int)] = sg ++ sgn l (n + 1) (s + 1) := by rw [sgn_succ, if_pos hx, List.append_assoc]
        rw [e5, e6, e7]
        exact hI
      · rw [if_neg (by simpa using hx)]
        simp only [Option.bind_some, Sum.elim_inl]
        rw [if_neg hx] at hcs
        have e6 : cntT l n (s + 1) = cntT l n s := by
          unfold cntT
          refine tab_ext fun j hj => ?_
          by_cases ej : j = n + 1
          · subst ej
            rw [if_neg (by omega), if_neg (by omega), if_pos rfl, if_neg (by omega), if_neg (by omega), if_pos rfl, hcs]; omega
          · rw [if_neg ej, if_neg ej]
        have e7 : sgn l (n + 1) (s + 1) = sgn l (n + 1) s := by rw [sgn_succ, if_neg hx, List.append_nil]
        rw [e6, e7, hcs, Nat.add_zero] at hI
        rw [e3]
        exact hI
    · rw [if_neg (by rw [decide_eq_true_eq]; omega)]
      have : s = l.length := by omega
      subst this
      rw [List.take_length]
      rfl
end Go.Ev.Deflate
namespace Go.Ev.Deflate
def cntU (l : List Int) (n : Nat) : List Int := tab 16 (fun j => if j = 0 then 0 else if j ≤ n then (cnt l j : Int) else 0)
theorem sgs_length (l : List Int) : ∀ n, (sgs l n).length ≤ n * l.length
  | 0 => by simp [sgs]
  | n + 1 => by
    have h1 := sgs_length l n
    have h2 := cnt_le l (n + 1)
    simp only [sgs, List.length_append, sgn_length l (n + 1) l.length (Nat.le_refl _), List.take_length, Nat.add_mul, Nat.one_mul]
    omega
theorem shN_le (l : List Int) (hl : l.length ≤ 320) : ∀ n, n ≤ 15 → shN l n ≤ n * 5242880
  | 0, _ => by simp [shN]
  | n + 1, h => by
    have h1 := shN_le l hl n (by omega)
    have h2 := cnt_le l (n + 1)
    have h3 : cnt l (n + 1) * 2 ^ (15 - (n + 1)) ≤ 320 * 16384 := Nat.mul_le_mul (by omega) (pow15 (by omega))
    simp only [shN, Nat.add_mul]
    omega
theorem l25_1_spec {l : List Int} (hl : l.length ≤ 320) (lens cds : List Int) : ∀ (k n : Nat), 15 < n + k → n ≤ 15 →
    loopN g25_1 o25_1 b25_1 k (l, (shN l n : Int), (n : Int), cntU l n, lens, cds, sgs l n, ()) = some (.inl ((shN l 15 : Int), cntU l 15, lens, cds, sgs l 15, ())) := by
  intro k
  induction k with
  | zero => intro n h1 h2; omega
  | succ k ih =>
    intro n h1 h2
    rw [loopN_succ]
    generalize hL : loopN g25_1 o25_1 b25_1 k = L at ih ⊢
    unfold b25_1
    simp only [if_true]
    rcases Nat.lt_or_ge n 15 with h | h
    · rw [if_pos (by rw [decide_eq_true_eq]; omega)]
      have hsl := sgs_length l n
      have hshl := shN_le l hl n (by omega)
      have hm : n * l.length ≤ 15 * 320 := Nat.mul_le_mul (by omega) hl
      have g := l25_2_spec hl h (n : Int) lens cds (sgs l n) (shN l n) (by omega) (by omega) 18446744073709551616 0 (by omega) (by omega)
      have e0 : cnt (l.take 0) (n + 1) = 0 := by simp [cnt]
      have e1 : sgn l (n + 1) 0 = [] := by simp [sgn]
      have e2 : cntT l n 0 = cntU l n := by
        unfold cntT cntU
        refine tab_ext fun j hj => ?_
        by_cases h0 : j = 0
        · rw [if_pos h0, if_pos h0]
        · rw [if_neg h0, if_neg h0]
          by_cases h1 : j ≤ n
          · rw [if_pos h1, if_pos h1]
          · rw [if_neg h1, if_neg h1, List.take_zero]; simp [cnt]
      rw [e0, Nat.zero_mul, Nat.add_zero, e1, List.append_nil, e2] at g
      have g' : loopN g25_2 o25_2 b25_2 18446744073709551616 (l, (shN l n : Int), (n : Int), (n : Int), l, (l.length : Int), 0, cntU l n, lens, cds, sgs l n, ()) = _ := g
      rw [show l25_2 = loopN g25_2 o25_2 b25_2 18446744073709551616 from rfl, g']
      simp only [Option.bind_some, Sum.elim_inl]
      have e3 : IntKind.wrap IntKind.i64 ((n : Int) + 1) = ((n + 1 : Nat) : Int) := by rw [wrap_i64 (by omega)]; omega
      have e4 : cntT l n l.length = cntU l (n + 1) := by
        unfold cntT cntU
        refine tab_ext fun j hj => ?_
        by_cases h0 : j = 0
        · rw [if_pos h0, if_pos h0]
        · rw [if_neg h0, if_neg h0, List.take_length]
          by_cases h1 : j ≤ n
          · rw [if_pos h1, if_pos (by omega)]
          · rw [if_neg h1]
            by_cases h2 : j = n + 1
            · rw [if_pos h2, if_pos (by omega)]
            · rw [if_neg h2, if_neg (by omega)]
      rw [e3, e4]
      exact ih (n + 1) (by omega) (by omega)
    · rw [if_neg (by rw [decide_eq_true_eq]; omega)]
      have : n = 15 := by omega
      subst this
      rfl
end Go.Ev.Deflate
namespace Go.Ev.Deflate
theorem shN_cons (x : Int) (l : List Int) (hx : 0 ≤ x ∧ x ≤ 15) : ∀ n, shN (x :: l) n = shN l n + (if 0 < x ∧ x ≤ (n : Int) then 2 ^ (15 - x.toNat) else 0)
  | 0 => by
    rw [if_neg (by omega)]; simp [shN]
  | n + 1 => by
    simp only [shN, shN_cons x l hx n]
    have hc : cnt (x :: l) (n + 1) = cnt l (n + 1) + if x = ((n + 1 : Nat) : Int) then 1 else 0 := by
      unfold cnt
      rw [List.count_cons]
      by_cases h : x = ((n + 1 : Nat) : Int)
      · rw [if_pos h, if_pos (by simpa using h)]
      · rw [if_neg h, if_neg (by simpa using h)]
    rw [hc, Nat.add_mul]
    by_cases h : x = ((n + 1 : Nat) : Int)
    · rw [if_pos h, if_neg (by omega), if_pos (by omega), h, Int.toNat_natCast, Nat.one_mul]; omega
    · rw [if_neg h, Nat.zero_mul]
      by_cases h2 : 0 < x ∧ x ≤ (n : Int)
      · rw [if_pos h2, if_pos (by omega)]; omega
      · rw [if_neg h2, if_neg (by omega)]; omega
theorem shN_shr : ∀ {l : List Int}, Ok l → shN l 15 = shr l
  | [], _ => by simp [shr, shN, cnt]
  | x :: l, h => by
    have hx := h x (List.mem_cons_self ..)
    rw [shN_cons x l hx 15, shN_shr (fun y hy => h y (List.mem_cons_of_mem _ hy))]
    simp only [shr]
    by_cases h2 : 0 < x
    · rw [if_pos h2, if_pos (by omega)]; omega
    · rw [if_neg h2, if_neg (by omega)]; omega
end Go.Ev.Deflate
namespace Go.Ev.Deflate
def words (l : List Int) : Nat := (sgs l 15).length
theorem cntU_C (l : List Int) : cntU l 15 = C l := by
  unfold cntU C
  refine tab_ext fun j hj => ?_
  by_cases h0 : j = 0
  · rw [if_pos h0, if_pos h0]
  · rw [if_neg h0, if_neg h0, if_pos (by omega)]
theorem f52_eqn {l : List Int} (hl : l.length ≤ 100000) : f52 (l, ()) = some (l, ()) := by
  unfold f52
  have e : List.take 0 (List.drop 0 (List.replicate 0 (0 : Int))) = [] := rfl
  simp only [e, List.nil_append, if_true]
  by_cases h : l.length = 0
  · have hn : l = [] := List.eq_nil_of_length_eq_zero h
    subst hn
    rfl
  · rw [if_neg h, if_pos (by omega)]
noncomputable def errM (l : List Int) : Int := if err l = 0 then (if shr l < 32768 ∧ 0 < words l ∧ (1 < words l ∨ cnt l 1 = 0) then 4 else 0) else err l
theorem err_ok {l : List Int} (h : err l = 0) : l.length ≤ 320 ∧ Ok l ∧ shr l ≤ 32768 := by
  obtain ⟨c, _, h2⟩ := f67_eqn l
  obtain ⟨_, h3⟩ := h2 h
  exact h3
theorem errM_pos {l : List Int} (he : err l = 0) (h : shr l < 32768 ∧ 0 < words l ∧ (1 < words l ∨ cnt l 1 = 0)) : errM l = 4 := by
  unfold errM; rw [if_pos he, if_pos h]
theorem errM_neg {l : List Int} (he : err l = 0) (h : ¬ (shr l < 32768 ∧ 0 < words l ∧ (1 < words l ∨ cnt l 1 = 0))) : errM l = 0 := by
  unfold errM; rw [if_pos he, if_neg h]
theorem f25_eqn (l : List Int) : f25 (l, ()) = if errM l = 0 then some (.inr (0, C l, l, codes l, sgs l 15, ())) else some (.inl (errM l, ())) := by
  unfold f25
  rw [f51_eqn]
  simp only [Option.bind_some]
  by_cases he : err l = 0
  · obtain ⟨hl, hk, hs⟩ := err_ok he
    rw [if_neg (by rw [he]; simp), if_pos he, f52_eqn (by omega)]
    simp only [Option.bind_some, List.drop_zero, List.take_length]
    have g := l25_1_spec hl l (codes l) 18446744073709551616 0 (by omega) (by omega)
    have e0 : cntU l 0 = List.replicate 16 0 := by
      rw [tab_zero]
      exact tab_ext fun j hj => by
        by_cases h0 : j = 0
        · rw [if_pos h0]
        · rw [if_neg h0, if_neg (by omega)]
    rw [e0, cntU_C, shN_shr hk] at g
    have g' : loopN g25_1 o25_1 b25_1 18446744073709551616 (l, 0, 0, List.replicate 16 0, l, codes l, [], ()) = _ := g
    rw [show l25_1 = loopN g25_1 o25_1 b25_1 18446744073709551616 from rfl]
    generalize loopN g25_1 o25_1 b25_1 18446744073709551616 (l, 0, 0, List.replicate 16 0, l, codes l, [], ()) = X at g' ⊢
    subst g'
    rw [Option.bind_some, Sum.elim_inl]
    dsimp only
    rw [if_pos (trivial : True)]
    have ec : (C l).getD 1 0 = (cnt l 1 : Int) := by unfold C; rw [tab_get (by omega), if_neg (by omega)]
    have hwd : (sgs l 15).length = words l := rfl
    rw [ec, hwd]
    by_cases h1 : shr l < 32768
    · rw [if_pos (by rw [decide_eq_true_eq]; omega)]
      by_cases h2 : 0 < words l
      · rw [if_pos (by rw [decide_eq_true_eq]; omega)]
        by_cases h3 : 1 < words l
        · rw [errM_pos he ⟨h1, h2, .inl h3⟩, if_pos (by rw [decide_eq_true_eq]; omega), if_neg (by decide)]
        · by_cases h4 : cnt l 1 = 0
          · rw [errM_pos he ⟨h1, h2, .inr h4⟩, if_neg (by rw [decide_eq_true_eq]; omega), if_pos (by rw [beq_iff_eq, h4]; rfl), if_neg (by decide)]
          · rw [errM_neg he (fun h => h.2.2.elim h3 h4), if_neg (by rw [decide_eq_true_eq]; omega), if_neg (fun h => h4 (Int.natCast_eq_zero.1 (eq_of_beq h))), if_pos rfl]
      · rw [errM_neg he (fun h => h2 h.2.1), if_neg (by rw [decide_eq_true_eq]; omega), if_pos rfl]
    · rw [errM_neg he (fun h => h1 h.1), if_neg (by rw [decide_eq_true_eq]; omega), if_pos rfl]
  · have hm : errM l = err l := by unfold errM; rw [if_neg he]
    rw [if_pos (by simpa using he), hm, if_neg he]
end Go.Ev.Deflate
namespace Go.Ev.Deflate
end Go.Ev.Deflate
namespace Go.Ev.Deflate
def lenB (s : Nat) : Nat × Nat := if s = 285 then (258, 0) else if s < 265 then (s - 254, 0) else (3 + (4 + (s - 257) % 4) * 2 ^ ((s - 257) / 4 - 1), (s - 257) / 4 - 1)
def bkB (s : Nat) : Nat × Nat := if s < 4 then (1 + s, 0) else (1 + (2 + s % 2) * 2 ^ (s / 2 - 1), s / 2 - 1)
theorem lenB_lim {s : Nat} (h1 : 257 ≤ s) (h2 : s ≤ 285) : 3 ≤ (lenB s).1 ∧ (lenB s).1 + 2 ^ (lenB s).2 ≤ 259 ∧ (lenB s).2 ≤ 5 := by
  have h : s = 257 ∨ s = 258 ∨ s = 259 ∨ s = 260 ∨ s = 261 ∨ s = 262 ∨ s = 263 ∨ s = 264 ∨ s = 265 ∨ s = 266 ∨ s = 267 ∨ s = 268 ∨ s = 269 ∨ s = 270 ∨ s = 271 ∨ s = 272 ∨ s = 273 ∨ s = 274 ∨ s = 275 ∨ s = 276 ∨ s = 277 ∨ s = 278 ∨ s = 279 ∨ s = 280 ∨ s = 281 ∨ s = 282 ∨ s = 283 ∨ s = 284 ∨ s = 285 := by omega
  rcases h with rfl | rfl | rfl | rfl | rfl | rfl | rfl | rfl | rfl | rfl | rfl | rfl | rfl | rfl | rfl | rfl | rfl | rfl | rfl | rfl | rfl | rfl | rfl | rfl | rfl | rfl | rfl | rfl | rfl <;> decide
theorem bkB_lim {s : Nat} (h2 : s < 30) : 1 ≤ (bkB s).1 ∧ (bkB s).1 + 2 ^ (bkB s).2 ≤ 32769 ∧ (bkB s).2 ≤ 13 := by
  have h : s = 0 ∨ s = 1 ∨ s = 2 ∨ s = 3 ∨ s = 4 ∨ s = 5 ∨ s = 6 ∨ s = 7 ∨ s = 8 ∨ s = 9 ∨ s = 10 ∨ s = 11 ∨ s = 12 ∨ s = 13 ∨ s = 14 ∨ s = 15 ∨ s = 16 ∨ s = 17 ∨ s = 18 ∨ s = 19 ∨ s = 20 ∨ s = 21 ∨ s = 22 ∨ s = 23 ∨ s = 24 ∨ s = 25 ∨ s = 26 ∨ s = 27 ∨ s = 28 ∨ s = 29 := by omega
  rcases h with rfl | rfl | rfl | rfl | rfl | rfl | rfl | rfl | rfl | rfl | rfl | rfl | rfl | rfl | rfl | rfl | rfl | rfl | rfl | rfl | rfl | rfl | rfl | rfl | rfl | rfl | rfl | rfl | rfl | rfl <;> decide
def FU : Nat := 18446744073709551616
end Go.Ev.Deflate
namespace Go.Ev.Deflate
end Go.Ev.Deflate
namespace Go.Ev.Deflate
theorem wrap_u64 {n : Nat} (h : n < 18446744073709551616) : IntKind.wrap .u64 (n : Int) = (n : Int) := by
  have e : IntKind.wrap .u64 (n : Int) = (n : Int) % 18446744073709551616 := rfl
  rw [e]; omega
theorem f53_one {n : Nat} (hn : n < 65536) : f53 (1, (n : Int), ()) = some (0, (n : Int), ()) := by
  have e1 : Int.fdiv 1 4294967296 = 0 := by decide
  have e2 : Int.fdiv (n : Int) 4294967296 = 0 := by rw [Int.fdiv_eq_ediv_of_nonneg _ (by omega)]; omega
  have e3 : (BitVec.ofInt 64 1 &&& BitVec.ofInt 64 4294967295).toNat = 1 := by decide
  have e4 : (BitVec.ofInt 64 (n : Int) &&& BitVec.ofInt 64 4294967295).toNat = n := by
    rw [show (4294967295 : Int) = ((2 ^ 32 - 1 : Nat) : Int) from rfl, and64 (by omega) (by omega), Nat.and_two_pow_sub_one_eq_mod]; omega
  have e5 : (BitVec.ofInt 64 0 &&& BitVec.ofInt 64 4294967295).toNat = 0 := by decide
  have w0 : IntKind.wrap .u64 (0 : Int) = 0 := rfl
  have w1 : IntKind.wrap .u64 ((1 : Nat) : Int) = 1 := rfl
  have wn : IntKind.wrap .u64 (n : Int) = (n : Int) := wrap_u64 (by omega)
  have z0 : ((0 : Nat) : Int) = 0 := rfl
  unfold f53 f69
  dsimp only
  rw [e1, e2, e3, e4]
  simp only [w1, wn, Int.zero_mul, Int.mul_zero, Int.one_mul, Int.add_zero, w0, e2, e5, z0, Option.bind_some, show Int.fdiv 0 4294967296 = 0 from by decide]
theorem l27_1_spec (x : Int) {n : Nat} (hn : n ≤ 1000) : ∀ (k c : Nat), n < c + k → 1 ≤ c → c ≤ n →
    loopN g27_1 o27_1 b27_1 k ((c : Int), List.replicate c x ++ List.replicate (n - c) 0, ()) = some (.inl (List.replicate n x, ())) := by
  intro k
  induction k with
  | zero => intro c h1 h2 h3; omega
  | succ k ih =>
    intro c h1 h2 h3
    rw [loopN_succ]
    generalize hL : loopN g27_1 o27_1 b27_1 k = L at ih ⊢
    unfold b27_1
    dsimp only
    have hlen : (List.replicate c x ++ List.replicate (n - c) (0 : Int)).length = n := by rw [List.length_append, List.length_replicate, List.length_replicate]; omega
    have ht : List.take (Int.toNat (c : Int) - 0) (List.drop 0 (List.replicate c x ++ List.replicate (n - c) (0 : Int))) = List.replicate c x := by
      rw [List.drop_zero, Int.toNat_natCast, Nat.sub_zero, List.take_left' (List.length_replicate ..)]
    have ht' : List.take (0 + Int.toNat (c : Int)) (List.replicate c x ++ List.replicate (n - c) (0 : Int)) = List.replicate c x := by
      rw [Int.toNat_natCast, Nat.zero_add, List.take_left' (List.length_replicate ..)]
    rw [ht, ht', hlen, List.length_replicate, Int.toNat_natCast]
    rcases Nat.lt_or_ge c n with h | h
    · have hd : List.drop (0 + c + min c (n - c)) (List.replicate c x ++ List.replicate (n - c) (0 : Int)) = List.replicate (n - (c + min c (n - c))) 0 := by
        rw [List.drop_append, List.length_replicate, List.drop_eq_nil_of_le (by rw [List.length_replicate]; omega), List.nil_append, List.drop_replicate]
        congr 1; omega
      have hm : List.take (min c (n - c)) (List.replicate c x) = List.replicate (min c (n - c)) x := by
        rw [List.take_replicate]; congr 1; omega
      rw [hd, hm, ← List.append_assoc, List.replicate_append_replicate]
      rw [if_pos (by rw [decide_eq_true_eq]; omega), if_pos (by omega), if_pos (by omega), if_pos (by omega), if_pos (by omega), if_neg (by omega), if_pos (by rw [List.length_append, List.length_replicate, List.length_replicate]; omega),
        show IntKind.wrap .i64 ((c : Int) + ((min c (n - c) : Nat) : Int)) = ((c + min c (n - c) : Nat) : Int) by rw [wrap_i64 (by omega)]; omega, Option.bind_some, Sum.elim_inl]
      exact ih (c + min c (n - c)) (by omega) (by omega) (by omega)
    · have e : c = n := by omega
      subst e
      rw [if_neg (by rw [decide_eq_true_eq]; omega), if_pos rfl, Nat.sub_self, List.replicate_zero, List.append_nil]
      rfl
theorem f27_eqn (x : Int) {n : Nat} (h1 : 1 ≤ n) (hn : n ≤ 1000) : f27 ([x], (n : Int), ()) = some (List.replicate n x, ()) := by
  unfold f27
  dsimp only
  rw [if_neg (by rw [decide_eq_true_eq]; omega)]
  have e1 : IntKind.wrap .u64 (([x].length : Nat) : Int) = 1 := rfl
  rw [e1, wrap_u64 (by omega), f53_one (by omega), Option.bind_some]
  dsimp only
  have e2 : min ([x].length) (Int.toNat (n : Int)) = 1 := by rw [List.length_singleton, Int.toNat_natCast]; omega
  have e3 : List.take 1 [x] = [x] := rfl
  have h := l27_1_spec x hn 18446744073709551616 1 (by omega) (by omega) (by omega)
  have e4 : List.take 0 (List.replicate n (0 : Int)) ++ ([x] ++ List.drop (0 + 1) (List.replicate n 0)) = List.replicate 1 x ++ List.replicate (n - 1) 0 := by
    rw [List.take_zero, List.nil_append, List.drop_replicate]; rfl
  have h' : loopN g27_1 o27_1 b27_1 18446744073709551616 (1, List.replicate 1 x ++ List.replicate (n - 1) 0, ()) = _ := h
  rw [wrap_i64 (by omega), e2, e3, Int.toNat_natCast, e4]
  rw [if_neg (show ¬ (decide ((0 : Int) > 0) = true) by decide), if_neg (by rw [decide_eq_true_eq]; omega), if_pos (by omega), if_pos (by omega), if_pos (by omega), if_neg (show ¬ (1 = 0) by decide), if_pos (by rw [List.length_append, List.length_replicate, List.length_replicate]; omega),
    show l27_1 = loopN g27_1 o27_1 b27_1 18446744073709551616 from rfl, show (((1 : Nat) : Nat) : Int) = 1 from rfl, h', Option.bind_some, Sum.elim_inl, if_pos rfl]
end Go.Ev.Deflate
namespace Go.Ev.Deflate
def fixL : List Int := List.replicate 144 8 ++ List.replicate 112 9 ++ List.replicate 24 7 ++ List.replicate 8 8
def fixD : List Int := List.replicate 32 5
structure Inv (most : Int) (n : Nat) (T : List Tok) : Prop where
  out : ∃ o, exp most T [] = .inl o ∧ o.length = n
  tok : T.all isT = true
  len : T.length ≤ n
  lim : (n : Int) ≤ most
theorem Inv.nil {most : Int} (h : 0 ≤ most) : Inv most 0 [] := ⟨⟨[], rfl, rfl⟩, rfl, Nat.le_refl _, h⟩
end Go.Ev.Deflate
namespace Go.Ev.Deflate
set_option maxRecDepth 100000 in
theorem f26_fix : f26 () = some (fixL, ()) := by kernel_rfl
set_option maxRecDepth 100000 in
theorem f25_fixL : (match f25 (fixL, ()) with | some (.inr _) => true | _ => false) = true := by kernel_rfl
set_option maxRecDepth 100000 in
theorem f25_fixD : (match f25 (fixD, ()) with | some (.inr _) => true | _ => false) = true := by kernel_rfl
theorem errM_fixL : errM fixL = 0 := by
  have h := f25_fixL
  rw [f25_eqn] at h
  by_cases c : errM fixL = 0
  · exact c
  · rw [if_neg c] at h; cases h
theorem errM_fixD : errM fixD = 0 := by
  have h := f25_fixD
  rw [f25_eqn] at h
  by_cases c : errM fixD = 0
  · exact c
  · rw [if_neg c] at h; cases h
end Go.Ev.Deflate
namespace Go.Ev.Deflate
end Go.Ev.Deflate
namespace Go.Ev.Deflate
theorem bitsAt_append {b : List Int} (r : List Int) {p n : Nat} (h : p + n ≤ 8 * b.length) : bitsAt (b ++ r) p n = bitsAt b p n := by
  unfold bitsAt
  obtain ⟨d, hd⟩ : ∃ d, 8 * b.length = p + (n + d) := ⟨8 * b.length - p - n, by omega⟩
  rw [valB_append, pow256, hd, Nat.pow_add, Nat.pow_add, Nat.mul_assoc, Nat.add_mul_div_left _ _ (Nat.two_pow_pos p), Nat.mul_assoc, Nat.add_mul_mod_self_left]
structure Ext (b c : List Int) (most more : Int) : Prop where
  len : b.length ≤ c.length
  bits : ∀ p n, p + n ≤ 8 * b.length → bitsAt c p n = bitsAt b p n
  bytes : ∀ q v, q + v ≤ b.length → (c.drop q).take v = (b.drop q).take v
  lim : most ≤ more
theorem Ext.append (b : List Int) (r : List Int) (most : Int) : Ext b (b ++ r) most most :=
  ⟨by rw [List.length_append]; omega, fun _ _ h => bitsAt_append r h, fun q v h => by
    rw [List.drop_append_of_le_length (by omega), List.take_append_of_le_length (by rw [List.length_drop]; omega)], Int.le_refl _⟩
theorem Ext.more (b : List Int) {most more : Int} (h : most ≤ more) : Ext b b most more := ⟨Nat.le_refl _, fun _ _ _ => rfl, fun _ _ _ => rfl, h⟩
def Rel {α : Type} (b c : List Int) (most more : Int) (r r' : α ⊕ Int) : Prop := (b.length < c.length ∧ r = .inr 6) ∨ (most < more ∧ r = .inr 2) ∨ r' = r
theorem Rel.same {α : Type} {b c : List Int} {most more : Int} (r : α ⊕ Int) : Rel b c most more r r := .inr (.inr rfl)
end Go.Ev.Deflate
