/- Part of a proof about the given program: HuffE. -/
import Derived.Test.YtcpkgneomhpipaaHuffD
namespace Go.Ev.Huff

/-! ## The table -/
def sgn (l : List Int) (n s : Nat) : List Int := ((List.range s).filter fun i => l.getD i 0 == (n : Int)).map fun (i : Nat) => (i : Int)
def sgs (l : List Int) : Nat → List Int
  | 0 => []
  | n + 1 => sgs l n ++ sgn l (n + 1) l.length
def shN (l : List Int) : Nat → Nat
  | 0 => 0
  | n + 1 => shN l n + cnt l (n + 1) * 2 ^ (15 - (n + 1))
def cntT (l : List Int) (n s : Nat) : List Int := tab 16 (fun j => if j = 0 then 0 else if j ≤ n then (cnt l j : Int) else if j = n + 1 then (cnt (l.take s) j : Int) else 0)
theorem sgn_succ (l : List Int) (n s : Nat) : sgn l n (s + 1) = sgn l n s ++ (if l.getD s 0 = (n : Int) then [(s : Int)] else []) := by
  unfold sgn
  rw [List.range_succ, List.filter_append, List.map_append]
  congr 1
  by_cases h : l.getD s 0 = (n : Int)
  · rw [List.filter_cons_of_pos (by rw [h]; simp), if_pos h]; rfl
  · rw [List.filter_cons_of_neg (by simpa using h), if_neg h]; rfl
theorem sgn_length (l : List Int) (n : Nat) : ∀ s, s ≤ l.length → (sgn l n s).length = cnt (l.take s) n
  | 0, _ => by simp [sgn, cnt]
  | s + 1, h => by
    rw [sgn_succ, List.length_append, sgn_length l n s (by omega)]
    unfold cnt
    rw [count_take_succ (by omega)]
    split <;> simp
theorem pow15 {n : Nat} (h : n < 15) : (2 : Nat) ^ (15 - (n + 1)) ≤ 16384 := by
  have : (2 : Nat) ^ (15 - (n + 1)) ≤ 2 ^ 14 := Nat.pow_le_pow_right (by omega) (by omega)
  simpa using this

theorem l11_2_spec {l : List Int} (hl : l.length ≤ 320) {n : Nat} (hn : n < 15) (a : Int) (lens cds sg : List Int) (sh : Nat) (hsh : sh ≤ 100000000) (hsg : sg.length ≤ 100000) : ∀ (k s : Nat), l.length < s + k → s ≤ l.length →
    loopN g11_2 o11_2 b11_2 k (l, ((sh + cnt (l.take s) (n + 1) * 2 ^ (15 - (n + 1)) : Nat) : Int), (n : Int), a, l, (l.length : Int), (s : Int), cntT l n s, lens, cds, sg ++ sgn l (n + 1) s, ()) =
      some (.inl (l, ((sh + cnt l (n + 1) * 2 ^ (15 - (n + 1)) : Nat) : Int), a, cntT l n l.length, lens, cds, sg ++ sgn l (n + 1) l.length, ())) := by
  intro k
  induction k with
  | zero => intro s h1 h2; omega
  | succ k ih =>
    intro s h1 h2
    rw [loopN_succ]
    generalize hL : loopN g11_2 o11_2 b11_2 k = L at ih ⊢
    unfold b11_2
    simp only [Int.toNat_natCast, if_true, List.drop_zero, List.take_length, one_of]
    rcases Nat.lt_or_ge s l.length with h | h
    · have hi0 : (0 : Int) ≤ (s : Int) := by omega
      have hi1 : (s : Int) < (l.length : Int) := by omega
      have e3 : IntKind.wrap IntKind.i64 ((s : Int) + 1) = ((s + 1 : Nat) : Int) := by rw [wrap_i64 (by omega)]; omega
      have e4 : IntKind.wrap IntKind.i64 ((n : Int) + 1) = ((n + 1 : Nat) : Int) := by rw [wrap_i64 (by omega)]; omega
      have hI := ih (s + 1) (by omega) (by omega)
      have hc : cnt (l.take s) (n + 1) ≤ 320 := Nat.le_trans (cnt_le _ _) (by rw [List.length_take]; omega)
      have hcs : cnt (l.take (s + 1)) (n + 1) = cnt (l.take s) (n + 1) + if l.getD s 0 = ((n + 1 : Nat) : Int) then 1 else 0 := count_take_succ h _
      have hp := pow15 hn
      rw [if_pos (by rw [decide_eq_true_eq]; exact hi1), if_pos hi0, if_pos hi1, e4]
      by_cases hx : l.getD s 0 = ((n + 1 : Nat) : Int)
      · have hgl : (sg ++ sgn l (n + 1) s).length ≤ 200000 := by
          rw [List.length_append, sgn_length _ _ _ h2]; omega
        have hx0 : (0 : Int) ≤ l.getD s 0 := by omega
        have hx16 : l.getD s 0 < 16 := by omega
        rw [if_pos hx] at hcs
        rw [if_pos (by rw [hx]; simp), if_pos (by rw [List.length_singleton]; omega), if_pos hx0, if_pos hx16, if_pos hx0, if_pos hx16, if_neg (Int.not_lt.2 hx0)]
        simp only [Option.bind_some, Sum.elim_inl]
        rw [fdiv32768 ⟨hx0, by omega⟩, e3]
        have e5 : IntKind.wrap IntKind.i64 (((sh + cnt (l.take s) (n + 1) * 2 ^ (15 - (n + 1)) : Nat) : Int) + ((2 ^ (15 - (l.getD s 0).toNat) : Nat) : Int)) = ((sh + cnt (l.take (s + 1)) (n + 1) * 2 ^ (15 - (n + 1)) : Nat) : Int) := by
          rw [hx, Int.toNat_natCast, hcs, Nat.add_mul, Nat.one_mul]
          generalize (2 : Nat) ^ (15 - (n + 1)) = p at hp
          have : cnt (l.take s) (n + 1) * p ≤ 320 * 16384 := Nat.mul_le_mul hc hp
          generalize cnt (l.take s) (n + 1) * p = q at this
          rw [wrap_i64 (by omega)]; omega
        have e6 : (cntT l n s).set (l.getD s 0).toNat (IntKind.wrap IntKind.i64 ((cntT l n s).getD (l.getD s 0).toNat 0 + 1)) = cntT l n (s + 1) := by
          rw [hx, Int.toNat_natCast]
          unfold cntT
          rw [tab_get (by omega), tab_set, if_neg (by omega), if_neg (by omega), if_pos rfl, wrap_i64 (by omega)]
          refine tab_ext fun j hj => ?_
          by_cases ej : j = n + 1
          · subst ej
            rw [if_pos rfl, if_neg (by omega), if_neg (by omega), if_pos rfl, hcs]; omega
          · rw [if_neg ej]
            by_cases e0 : j = 0
            · rw [if_pos e0, if_pos e0]
            · rw [if_neg e0, if_neg e0]
              by_cases e1 : j ≤ n
              · rw [if_pos e1, if_pos e1]
              · rw [if_neg e1, if_neg e1, if_neg ej, if_neg ej]
        have e7 : sg ++ sgn l (n + 1) s ++ [(s : Int)] = sg ++ sgn l (n + 1) (s + 1) := by rw [sgn_succ, if_pos hx, List.append_assoc]
        rw [e5, e6, e7]
        exact hI
      · rw [if_neg (by simpa using hx)]
        simp only [Option.bind_some, Sum.elim_inl]
        rw [if_neg hx] at hcs
        have e6 : cntT l n (s + 1) = cntT l n s := by
          unfold cntT
          refine tab_ext fun j hj => ?_
          by_cases ej : j = n + 1
          · subst ej
            rw [if_neg (by omega), if_neg (by omega), if_pos rfl, if_neg (by omega), if_neg (by omega), if_pos rfl, hcs]; omega
          · rw [if_neg ej, if_neg ej]
        have e7 : sgn l (n + 1) (s + 1) = sgn l (n + 1) s := by rw [sgn_succ, if_neg hx, List.append_nil]
        rw [e6, e7, hcs, Nat.add_zero] at hI
        rw [e3]
        exact hI
    · rw [if_neg (by rw [decide_eq_true_eq]; omega)]
      have : s = l.length := by omega
      subst this
      rw [List.take_length]
      rfl
end Go.Ev.Huff
