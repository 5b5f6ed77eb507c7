/- Part of a proof about the given program: HuffA. -/
import Derived.Test.YtcpkgneomhpipaaArr
import Derived.Test.YtcpkgneomhpipaaF
namespace Go.Ev.Huff

/-! ## Lengths: how many of each, and their share -/
def cnt (l : List Int) (n : Nat) : Nat := l.count (n : Int)
def shr : List Int → Nat
  | [] => 0
  | x :: l => (if 0 < x then 2 ^ (15 - x.toNat) else 0) + shr l
def Ok (l : List Int) : Prop := ∀ x ∈ l, 0 ≤ x ∧ x ≤ 15
theorem shr_append : ∀ a b : List Int, shr (a ++ b) = shr a + shr b
  | [], b => by simp [shr]
  | x :: a, b => by simp only [List.cons_append, shr, shr_append a b]; omega
theorem shr_le : ∀ l : List Int, shr l ≤ 32768 * l.length
  | [] => by simp [shr]
  | x :: l => by
    have := shr_le l
    have h : 2 ^ (15 - x.toNat) ≤ 32768 := by
      have : (2 : Nat) ^ (15 - x.toNat) ≤ 2 ^ 15 := Nat.pow_le_pow_right (by omega) (by omega)
      simpa using this
    simp only [shr, List.length_cons]
    split <;> omega
theorem shr_take_succ {l : List Int} {i : Nat} (h : i < l.length) : shr (l.take (i + 1)) = shr (l.take i) + (if 0 < l.getD i 0 then 2 ^ (15 - (l.getD i 0).toNat) else 0) := by
  rw [List.take_add_one, List.getElem?_eq_getElem h, shr_append]
  simp [shr, List.getD_eq_getElem?_getD, h]
theorem shr_take_le (l : List Int) (i : Nat) : shr (l.take i) ≤ shr l := by
  have : shr l = shr (l.take i) + shr (l.drop i) := by rw [← shr_append, List.take_append_drop]
  omega
theorem not_ok {l : List Int} {i : Nat} (h : i < l.length) (hx : ¬ (0 ≤ l.getD i 0 ∧ l.getD i 0 ≤ 15)) : ¬ Ok l := fun hk => by
  refine hx (hk _ ?_)
  rw [List.getD_eq_getElem?_getD, List.getElem?_eq_getElem h]
  exact List.getElem_mem _
theorem Ok.get {l : List Int} (h : Ok l) (i : Nat) : 0 ≤ l.getD i 0 ∧ l.getD i 0 ≤ 15 := by
  rw [List.getD_eq_getElem?_getD]
  rcases Nat.lt_or_ge i l.length with hi | hi
  · rw [List.getElem?_eq_getElem hi]; exact h _ (List.getElem_mem _)
  · rw [List.getElem?_eq_none hi]; simp
/-- What is told of lengths. -/
noncomputable def err (l : List Int) : Int := if 320 < l.length then 1 else open Classical in if Ok l then (if 32768 < shr l then 4 else 0) else 1
def C (l : List Int) : List Int := tab 16 (fun n => if n = 0 then 0 else (cnt l n : Int))

theorem fdiv32768 {x : Int} (h : 0 ≤ x ∧ x ≤ 15) : Int.fdiv 32768 (2 ^ (Min.min (Int.toNat x) 64)) = ((2 ^ (15 - x.toNat) : Nat) : Int) := by
  obtain ⟨n, rfl⟩ := Int.eq_ofNat_of_zero_le h.1
  have hn : n ≤ 15 := by omega
  have key : ∀ n : Nat, n ≤ 15 → Int.fdiv 32768 (2 ^ (Min.min (Int.toNat ((n : Nat) : Int)) 64)) = ((2 ^ (15 - (Int.toNat ((n : Nat) : Int))) : Nat) : Int) := by decide
  exact key n hn

theorem l27_spec {l : List Int} (hl : l.length ≤ 320) (res : List Int) : ∀ (k i : Nat), l.length < i + k → i ≤ l.length → (∀ j, j < i → 0 ≤ l.getD j 0 ∧ l.getD j 0 ≤ 15) →
    (Ok l ∧ loopN g27_1 o27_1 b27_1 k ((shr (l.take i) : Int), l, (l.length : Int), (i : Int), res, C (l.take i), ()) = some (.inl ((shr l : Int), res, C l, ()))) ∨
    (¬ Ok l ∧ ∃ c, loopN g27_1 o27_1 b27_1 k ((shr (l.take i) : Int), l, (l.length : Int), (i : Int), res, C (l.take i), ()) = some (.inr (.inl (1, c, ())))) := by
  intro k
  induction k with
  | zero => intro i h1 h2; omega
  | succ k ih =>
    intro i h1 h2 hb
    rw [loopN_succ]
    generalize hL : loopN g27_1 o27_1 b27_1 k = L at ih ⊢
    unfold b27_1
    simp only [Int.toNat_natCast]
    rcases Nat.lt_or_ge i l.length with h | h
    · rw [if_pos (by simp; omega), if_pos (by omega), if_pos (by omega)]
      by_cases hx : 0 ≤ l.getD i 0 ∧ l.getD i 0 ≤ 15
      · rw [if_neg (by rw [decide_eq_true_eq]; exact Int.not_lt.2 hx.1), if_neg (by rw [decide_eq_true_eq]; exact Int.not_lt.2 hx.2)]
        have hs1 := shr_take_succ h
        have hs2 := shr_le (l.take (i + 1))
        have hlt : (l.take (i + 1)).length ≤ 320 := by rw [List.length_take]; omega
        have hb' : ∀ j, j < i + 1 → 0 ≤ l.getD j 0 ∧ l.getD j 0 ≤ 15 := fun j hj => by
          by_cases e : j = i
          · rw [e]; exact hx
          · exact hb j (by omega)
        have e3 : IntKind.wrap IntKind.i64 ((i : Int) + 1) = ((i + 1 : Nat) : Int) := by rw [wrap_i64 (by omega)]; omega
        have hI := ih (i + 1) (by omega) (by omega) hb'
        obtain ⟨n, hn⟩ := Int.eq_ofNat_of_zero_le hx.1
        have hcl : cnt (l.take i) n ≤ 320 := Nat.le_trans List.count_le_length (by rw [List.length_take]; omega)
        by_cases hp : 0 < l.getD i 0
        · have hx16 : l.getD i 0 < 16 := by omega
          rw [if_pos (by rw [decide_eq_true_eq]; exact hp), if_pos hx.1, if_pos hx16, if_pos hx.1, if_pos hx16, if_neg (Int.not_lt.2 hx.1)]
          simp only [Option.bind_some, Sum.elim_inl]
          rw [if_pos hp] at hs1
          rw [fdiv32768 hx, e3]
          have e1 : IntKind.wrap IntKind.i64 ((shr (l.take i) : Int) + ((2 ^ (15 - (l.getD i 0).toNat) : Nat) : Int)) = ((shr (l.take (i + 1)) : Nat) : Int) := by
            rw [hs1]
            generalize (2 : Nat) ^ (15 - (l.getD i 0).toNat) = p at hs1
            rw [wrap_i64 (by omega)]; omega
          have e2 : (C (l.take i)).set (l.getD i 0).toNat (IntKind.wrap IntKind.i64 ((C (l.take i)).getD (l.getD i 0).toNat 0 + 1)) = C (l.take (i + 1)) := by
            unfold C
            rw [hn, Int.toNat_natCast, tab_get (by omega), tab_set, if_neg (by omega), wrap_i64 (by omega)]
            refine tab_ext fun j hj => ?_
            by_cases ej : j = n
            · subst ej
              rw [if_pos rfl, if_neg (by omega)]
              unfold cnt
              rw [count_take_succ h, hn, if_pos rfl]; omega
            · rw [if_neg ej]
              by_cases e0 : j = 0
              · rw [if_pos e0, if_pos e0]
              · rw [if_neg e0, if_neg e0]
                unfold cnt
                rw [count_take_succ h, hn, if_neg (by omega)]; omega
          rw [e1, e2]
          exact hI
        · rw [if_neg (by rw [decide_eq_true_eq]; exact hp)]
          simp only [Option.bind_some, Sum.elim_inl]
          rw [if_neg hp, Nat.add_zero] at hs1
          rw [e3]
          have e2 : C (l.take (i + 1)) = C (l.take i) := by
            unfold C
            refine tab_ext fun j hj => ?_
            by_cases e0 : j = 0
            · rw [if_pos e0, if_pos e0]
            · rw [if_neg e0, if_neg e0]
              unfold cnt
              rw [count_take_succ h, if_neg (by omega)]; omega
          rw [hs1, e2] at hI
          exact hI
      · refine .inr ⟨not_ok h hx, C (l.take i), ?_⟩
        by_cases h0 : l.getD i 0 < 0
        · rw [if_pos (by rw [decide_eq_true_eq]; exact h0)]; rfl
        · have h15 : 15 < l.getD i 0 := by omega
          rw [if_neg (by rw [decide_eq_true_eq]; exact h0), if_pos (by rw [decide_eq_true_eq]; exact h15)]; rfl
    · rw [if_neg (by simp; omega)]
      have : i = l.length := by omega
      subst this
      rw [List.take_length]
      refine .inl ⟨fun x hx => ?_, rfl⟩
      obtain ⟨j, hj, rfl⟩ := List.mem_iff_getElem.1 hx
      have := hb j hj
      rwa [List.getD_eq_getElem?_getD, List.getElem?_eq_getElem hj] at this
end Go.Ev.Huff
