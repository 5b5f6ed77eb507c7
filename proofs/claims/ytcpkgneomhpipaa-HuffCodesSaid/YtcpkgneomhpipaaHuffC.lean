/- Part of a proof about the given program: HuffC. -/
import Derived.Test.YtcpkgneomhpipaaHuffB
namespace Go.Ev.Huff

/-! ## Words -/
def base (l : List Int) : Nat → Nat
  | 0 => 0
  | 1 => 0
  | n + 2 => 2 * (base l (n + 1) + cnt l (n + 1))
def code (l : List Int) (i : Nat) : Int := if 0 < l.getD i 0 then ((base l (l.getD i 0).toNat + cnt (l.take i) (l.getD i 0).toNat : Nat) : Int) else 0
def codes (l : List Int) : List Int := tab l.length (code l)

theorem cnt_le (l : List Int) (n : Nat) : cnt l n ≤ l.length := List.count_le_length
theorem base_le (l : List Int) : ∀ n, base l (n + 1) + 2 * l.length ≤ 2 ^ (n + 1) * l.length
  | 0 => by simp [base]
  | n + 1 => by
    have h1 := base_le l n
    have h2 := cnt_le l (n + 1)
    simp only [base]
    have e : 2 ^ (n + 1 + 1) * l.length = 2 ^ (n + 1) * l.length + 2 ^ (n + 1) * l.length := by
      rw [Nat.pow_succ 2 (n + 1), Nat.mul_comm _ 2, Nat.mul_assoc, Nat.two_mul]
    omega
theorem base_lim {l : List Int} (hl : l.length ≤ 320) {n : Nat} (hn : n ≤ 15) : base l n ≤ 10485760 := by
  cases n with
  | zero => simp [base]
  | succ n =>
    have h1 := base_le l n
    have h2 : 2 ^ (n + 1) * l.length ≤ 32768 * 320 := Nat.mul_le_mul (by
      have : (2 : Nat) ^ (n + 1) ≤ 2 ^ 15 := Nat.pow_le_pow_right (by omega) hn
      simpa using this) hl
    omega
theorem base_step {l : List Int} {n : Nat} (h : 1 ≤ n) : base l (n + 1) = 2 * (base l n + cnt l n) := by
  cases n with
  | zero => omega
  | succ n => rfl

/-! ## The program's words -/
theorem l9_1_spec {l : List Int} (hl : l.length ≤ 320) : ∀ (k n : Nat), 15 < n + k → 1 ≤ n → n ≤ 15 →
    loopN g9_1 o9_1 b9_1 k (l, (n : Int), C l, tab 16 (fun j => if j ≤ n then (base l j : Int) else 0), ()) = some (.inl (l, tab 16 (fun j => (base l j : Int)), ())) := by
  intro k
  induction k with
  | zero => intro n h1 h2 h3; omega
  | succ k ih =>
    intro n h1 h2 h3
    rw [loopN_succ]
    generalize hL : loopN g9_1 o9_1 b9_1 k = L at ih ⊢
    unfold b9_1
    simp only []
    rcases Nat.lt_or_ge n 15 with h | h
    · have e3 : IntKind.wrap IntKind.i64 ((n : Int) + 1) = ((n + 1 : Nat) : Int) := by rw [wrap_i64 (by omega)]; omega
      have h0 : (0 : Int) ≤ (n : Int) := by omega
      have h16 : (n : Int) < 16 := by omega
      rw [if_pos (by rw [decide_eq_true_eq]; omega), if_pos h0, if_pos h16, if_pos h0, if_pos h16, e3, if_pos (by omega), if_pos (by omega)]
      simp only [Option.bind_some, Sum.elim_inl, Int.toNat_natCast]
      have hb := base_lim hl (n := n) (by omega)
      have hc := cnt_le l n
      have e4 : IntKind.wrap IntKind.i64 (IntKind.wrap IntKind.i64 ((tab 16 (fun j => if j ≤ n then (base l j : Int) else 0)).getD n 0 + (C l).getD n 0) * 2) = (base l (n + 1) : Int) := by
        unfold C
        rw [tab_get (by omega), tab_get (by omega), if_pos (Nat.le_refl n), if_neg (by omega), base_step h2, wrap_i64 (n := (base l n : Int) + (cnt l n : Int)) (by omega), wrap_i64 (by omega)]
        omega
      have e5 : (tab 16 (fun j => if j ≤ n then (base l j : Int) else 0)).set (n + 1) (base l (n + 1) : Int) = tab 16 (fun j => if j ≤ n + 1 then (base l j : Int) else 0) := by
        rw [tab_set]
        refine tab_ext fun j hj => ?_
        by_cases ej : j = n + 1
        · rw [if_pos ej, if_pos (by omega), ej]
        · rw [if_neg ej]
          by_cases ej2 : j ≤ n
          · rw [if_pos ej2, if_pos (by omega)]
          · rw [if_neg ej2, if_neg (by omega)]
      have hI := ih (n + 1) (by omega) (by omega) (by omega)
      rw [← e5, ← e4] at hI
      exact hI
    · rw [if_neg (by rw [decide_eq_true_eq]; omega)]
      have : n = 15 := by omega
      subst this
      have e : tab 16 (fun j => if j ≤ 15 then (base l j : Int) else 0) = tab 16 (fun j => (base l j : Int)) := tab_ext fun j hj => by rw [if_pos (by omega)]
      rw [e]
      rfl

theorem l9_2_spec {l : List Int} (hl : l.length ≤ 320) (hk : Ok l) : ∀ (k s : Nat), l.length < s + k → s ≤ l.length →
    loopN g9_2 o9_2 b9_2 k (l, (l.length : Int), (s : Int), tab 16 (fun j => (base l j : Int) + if j = 0 then 0 else (cnt (l.take s) j : Int)), tab l.length (fun i => if i < s then code l i else 0), ()) = some (.inl (codes l, ())) := by
  intro k
  induction k with
  | zero => intro s h1 h2; omega
  | succ k ih =>
    intro s h1 h2
    rw [loopN_succ]
    generalize hL : loopN g9_2 o9_2 b9_2 k = L at ih ⊢
    unfold b9_2
    simp only [Int.toNat_natCast, if_true, Nat.zero_add, List.length_set, tab_length]
    rcases Nat.lt_or_ge s l.length with h | h
    · have hi0 : (0 : Int) ≤ (s : Int) := by omega
      have hi1 : (s : Int) < (l.length : Int) := by omega
      rw [if_pos (by rw [decide_eq_true_eq]; exact hi1), if_pos hi0, if_pos hi1]
      have hx := hk.get s
      have e3 : IntKind.wrap IntKind.i64 ((s : Int) + 1) = ((s + 1 : Nat) : Int) := by rw [wrap_i64 (by omega)]; omega
      have hI := ih (s + 1) (by omega) (by omega)
      obtain ⟨n, hn⟩ := Int.eq_ofNat_of_zero_le hx.1
      by_cases hp : 0 < l.getD s 0
      · have hx16 : l.getD s 0 < 16 := by omega
        rw [if_pos (by rw [decide_eq_true_eq]; exact hp), if_pos hx.1, if_pos hx16, if_pos hi0, if_pos hi1, if_pos hx.1, if_pos hx16, if_pos hx.1, if_pos hx16]
        simp only [Option.bind_some, Sum.elim_inl]
        have hb := base_lim hl (n := n) (by omega)
        have hc : cnt (l.take s) n ≤ 320 := Nat.le_trans (cnt_le _ _) (by rw [List.length_take]; omega)
        have hcode : code l s = (base l n : Int) + (cnt (l.take s) n : Int) := by
          unfold code
          rw [if_pos hp, hn, Int.toNat_natCast]; omega
        have e4 : (tab 16 (fun j => (base l j : Int) + if j = 0 then 0 else (cnt (l.take s) j : Int))).getD (l.getD s 0).toNat 0 = code l s := by
          rw [hn, Int.toNat_natCast, tab_get (by omega), if_neg (by omega), hcode]
        rw [e3, e4]
        have e5 : (tab 16 (fun j => (base l j : Int) + if j = 0 then 0 else (cnt (l.take s) j : Int))).set (l.getD s 0).toNat (IntKind.wrap IntKind.i64 (code l s + 1)) = tab 16 (fun j => (base l j : Int) + if j = 0 then 0 else (cnt (l.take (s + 1)) j : Int)) := by
          rw [hn, Int.toNat_natCast, tab_set, hcode, wrap_i64 (by omega)]
          refine tab_ext fun j hj => ?_
          by_cases ej : j = n
          · subst ej
            rw [if_pos rfl, if_neg (by omega)]
            unfold cnt
            rw [count_take_succ h, hn, if_pos rfl]; omega
          · rw [if_neg ej]
            by_cases e0 : j = 0
            · rw [if_pos e0, if_pos e0]
            · rw [if_neg e0, if_neg e0]
              unfold cnt
              rw [count_take_succ h, hn, if_neg (by omega)]; omega
        have e6 : (tab l.length (fun i => if i < s then code l i else 0)).set s (code l s) = tab l.length (fun i => if i < s + 1 then code l i else 0) := by
          rw [tab_set]
          refine tab_ext fun j hj => ?_
          by_cases ej : j = s
          · rw [if_pos ej, if_pos (by omega), ej]
          · rw [if_neg ej]
            by_cases ej2 : j < s
            · rw [if_pos ej2, if_pos (by omega)]
            · rw [if_neg ej2, if_neg (by omega)]
        rw [e5, e6]
        exact hI
      · rw [if_neg (by rw [decide_eq_true_eq]; exact hp)]
        simp only [Option.bind_some, Sum.elim_inl]
        rw [e3]
        have e5 : tab 16 (fun j => (base l j : Int) + if j = 0 then 0 else (cnt (l.take (s + 1)) j : Int)) = tab 16 (fun j => (base l j : Int) + if j = 0 then 0 else (cnt (l.take s) j : Int)) := by
          refine tab_ext fun j hj => ?_
          by_cases e0 : j = 0
          · rw [if_pos e0, if_pos e0]
          · rw [if_neg e0, if_neg e0]
            unfold cnt
            rw [count_take_succ h, if_neg (by omega)]; omega
        have e6 : tab l.length (fun i => if i < s + 1 then code l i else 0) = tab l.length (fun i => if i < s then code l i else 0) := by
          refine tab_ext fun j hj => ?_
          by_cases ej : j = s
          · rw [if_pos (by omega), if_neg (by omega), ej]
            unfold code
            rw [if_neg hp]
          · by_cases ej2 : j < s
            · rw [if_pos ej2, if_pos (by omega)]
            · rw [if_neg ej2, if_neg (by omega)]
        rw [e5, e6] at hI
        exact hI
    · rw [if_neg (by rw [decide_eq_true_eq]; omega)]
      have : s = l.length := by omega
      subst this
      have e : tab l.length (fun i => if i < l.length then code l i else 0) = codes l := tab_ext fun j hj => by rw [if_pos hj]
      rw [e]
      rfl

/-- The program's words. -/
theorem f9_eqn (l : List Int) : f9 (l, ()) = some (err l, (if err l = 0 then codes l else []), ()) := by
  obtain ⟨c, h1, h2⟩ := f27_eqn l
  unfold f9
  simp only []
  rw [h1]
  simp only [Option.bind_some]
  by_cases he : err l = 0
  · obtain ⟨rfl, hl, hk, _⟩ := h2 he
    rw [if_neg (by rw [he]; simp), if_pos he]
    have h := l9_1_spec hl 18446744073709551616 1 (by omega) (by omega) (by omega)
    have e0 : tab 16 (fun j => if j ≤ 1 then (base l j : Int) else 0) = List.replicate 16 0 := by
      rw [tab_zero]
      refine tab_ext fun j hj => ?_
      by_cases hj1 : j ≤ 1
      · rw [if_pos hj1]
        have : j = 0 ∨ j = 1 := by omega
        rcases this with rfl | rfl <;> rfl
      · rw [if_neg hj1]
    rw [e0] at h
    have h' : loopN g9_1 o9_1 b9_1 18446744073709551616 (l, 1, C l, List.replicate 16 0, ()) = _ := h
    rw [show l9_1 = loopN g9_1 o9_1 b9_1 18446744073709551616 from rfl, h']
    simp only [Option.bind_some, Sum.elim_inl, Int.toNat_natCast, List.length_replicate, if_true]
    rw [if_pos (by omega), if_pos (by omega)]
    have g := l9_2_spec hl hk 18446744073709551616 0 (by omega) (by omega)
    have e1 : tab 16 (fun j => (base l j : Int) + if j = 0 then 0 else (cnt (l.take 0) j : Int)) = tab 16 (fun j => (base l j : Int)) := tab_ext fun j hj => by
      by_cases h0 : j = 0
      · rw [if_pos h0]; omega
      · rw [if_neg h0, List.take_zero]; simp [cnt]
    have e2 : tab l.length (fun i => if i < 0 then code l i else 0) = List.replicate l.length 0 := by
      rw [tab_zero]
      exact tab_ext fun j hj => by rw [if_neg (by omega)]
    rw [e1, e2] at g
    have g' : loopN g9_2 o9_2 b9_2 18446744073709551616 (l, (l.length : Int), 0, tab 16 (fun j => (base l j : Int)), List.replicate l.length 0, ()) = _ := g
    rw [show l9_2 = loopN g9_2 o9_2 b9_2 18446744073709551616 from rfl, g', he]
    simp
  · rw [if_pos (by simpa using he), if_neg he]
end Go.Ev.Huff
