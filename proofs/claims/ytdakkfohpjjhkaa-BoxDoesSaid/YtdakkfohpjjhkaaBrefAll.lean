/- Part of a proof about the given program: BrefAll. -/
import Derived.Test.YtdakkfohpjjhkaaDecNum
import Derived.Test.YtdakkfohpjjhkaaBdecAll
namespace Go.Ev.Dec

/-! # Rows of digits, the lowest first -/
def dv : List Int → Int
  | [] => 0
  | x :: l => x + 10 * dv l
def Dg (l : List Int) : Prop := ∀ x ∈ l, 0 ≤ x ∧ x ≤ 9
theorem dv_append : ∀ a b : List Int, dv (a ++ b) = dv a + 10 ^ a.length * dv b
  | [], b => by simp [dv]
  | x :: a, b => by
    simp only [List.cons_append, dv, List.length_cons, dv_append a b, Int.pow_succ]
    rw [Int.mul_add, Int.mul_comm (10 ^ a.length) 10, Int.mul_assoc]
    omega
theorem dv_nonneg : ∀ {l : List Int}, (∀ x ∈ l, 0 ≤ x) → 0 ≤ dv l
  | [], _ => Int.le_refl _
  | x :: l, h => by
    have h1 := h x (List.mem_cons_self ..)
    have h2 := dv_nonneg (l := l) (fun y hy => h y (List.mem_cons_of_mem _ hy))
    simp only [dv]; omega
theorem Dg.nn {l : List Int} (h : Dg l) : ∀ x ∈ l, 0 ≤ x := fun x hx => (h x hx).1
theorem dv_lt : ∀ {l : List Int}, Dg l → dv l < 10 ^ l.length
  | [], _ => by simp [dv]
  | x :: l, h => by
    have h1 := h x (List.mem_cons_self ..)
    have h2 := dv_lt (l := l) (fun y hy => h y (List.mem_cons_of_mem _ hy))
    simp only [dv, List.length_cons, Int.pow_succ]; omega
theorem Dg.append {a b : List Int} (ha : Dg a) (hb : Dg b) : Dg (a ++ b) := fun x hx => by
  rcases List.mem_append.1 hx with h | h
  · exact ha x h
  · exact hb x h
theorem Dg.one {x : Int} (h : 0 ≤ x ∧ x ≤ 9) : Dg [x] := fun y hy => by rw [List.mem_singleton.1 hy]; exact h
theorem Dg.take {l : List Int} (h : Dg l) (n : Nat) : Dg (l.take n) := fun x hx => h x (List.mem_of_mem_take hx)
theorem Dg.drop {l : List Int} (h : Dg l) (n : Nat) : Dg (l.drop n) := fun x hx => h x (List.mem_of_mem_drop hx)
theorem Dg.getD {l : List Int} (h : Dg l) (i : Nat) : 0 ≤ l.getD i 0 ∧ l.getD i 0 ≤ 9 := by
  rw [List.getD_eq_getElem?_getD]
  rcases Nat.lt_or_ge i l.length with hi | hi
  · rw [List.getElem?_eq_getElem hi]; exact h _ (List.getElem_mem _)
  · rw [List.getElem?_eq_none hi]; simp
theorem dv_zeros : ∀ n : Nat, dv (List.replicate n 0) = 0
  | 0 => rfl
  | n + 1 => by rw [List.replicate_succ, dv, dv_zeros n]; rfl
theorem dv_take_succ {l : List Int} {i : Nat} (h : i < l.length) : dv (l.take (i + 1)) = dv (l.take i) + 10 ^ i * l.getD i 0 := by
  rw [List.take_add_one, List.getElem?_eq_getElem h, dv_append, List.length_take, Nat.min_eq_left (Nat.le_of_lt h), List.getD_eq_getElem?_getD, List.getElem?_eq_getElem h]
  simp [dv]
theorem dv_take_ge {l : List Int} {i : Nat} (h : l.length ≤ i) : dv (l.take i) = dv l := by rw [List.take_of_length_le h]
theorem dv_take_next (l : List Int) (i : Nat) : dv (l.take (i + 1)) = dv (l.take i) + 10 ^ i * l.getD i 0 := by
  rcases Nat.lt_or_ge i l.length with h | h
  · exact dv_take_succ h
  · rw [dv_take_ge h, dv_take_ge (by omega), List.getD_eq_getElem?_getD, List.getElem?_eq_none h]; simp
theorem dv_drop {l : List Int} {i : Nat} (h : i < l.length) : dv (l.drop i) = l.getD i 0 + 10 * dv (l.drop (i + 1)) := by
  rw [List.drop_eq_getElem_cons h, dv, List.getD_eq_getElem?_getD, List.getElem?_eq_getElem h]; rfl
theorem dv_split (l : List Int) (i : Nat) (h : i ≤ l.length) : dv l = dv (l.take i) + 10 ^ i * dv (l.drop i) := by
  conv => lhs; rw [← List.take_append_drop i l]
  rw [dv_append, List.length_take, Nat.min_eq_left h]
theorem dv_set : ∀ {l : List Int} {i : Nat} (v : Int), i < l.length → dv (l.set i v) = dv l + 10 ^ i * (v - l.getD i 0)
  | [], i, v, h => by simp at h
  | x :: l, 0, v, _ => by simp [dv]; omega
  | x :: l, i + 1, v, h => by
    simp only [List.set_cons_succ, dv, List.getD_cons_succ, Int.pow_succ]
    rw [dv_set v (by simpa using h), Int.mul_add, Int.mul_comm (10 ^ i) 10, Int.mul_assoc]
    omega
theorem dv_head (l : List Int) (h : Dg l) : dv l % 10 = l.getD 0 0 ∧ dv l / 10 = dv (l.drop 1) := by
  cases l with
  | nil => exact ⟨rfl, rfl⟩
  | cons x l =>
    have h1 := h x (List.mem_cons_self ..)
    simp only [dv, List.getD_cons_zero, List.drop_succ_cons, List.drop_zero]
    omega
/-- A row whose highest digit is no nought. -/
theorem dv_ge {l : List Int} (h : Dg l) {n : Nat} (hn : l.length = n + 1) (h0 : l.getD n 0 ≠ 0) : 10 ^ n ≤ dv l := by
  have h1 := h.getD n
  have h2 := dv_split l n (by omega)
  have h3 : dv (l.drop n) = l.getD n 0 := by
    rw [dv_drop (by omega), List.drop_of_length_le (by omega)]; simp [dv]
  have h4 := dv_nonneg (h.take n).nn
  rw [h2, h3]
  have h5 : (10 : Int) ^ n * 1 ≤ 10 ^ n * l.getD n 0 := Int.mul_le_mul_of_nonneg_left (by omega) (Int.le_of_lt (Int.pow_pos (by omega)))
  omega
theorem pow_le {a b : Nat} (h : a ≤ b) : (10 : Int) ^ a ≤ 10 ^ b := by
  have := Nat.pow_le_pow_right (n := 10) (by omega) h
  have e : ∀ n : Nat, ((10 ^ n : Nat) : Int) = (10 : Int) ^ n := fun n => by simp
  rw [← e, ← e]; omega
/-- Which row is less is told by the highest digit that differs. -/
theorem less_top {a b : List Int} (ha : Dg a) (hb : Dg b) {i : Nat} (hsame : dv (a.drop (i + 1)) = dv (b.drop (i + 1))) (hd : a.getD i 0 < b.getD i 0) : dv a < dv b := by
  have e : ∀ l : List Int, dv l = dv (l.take i) + 10 ^ i * (l.getD i 0 + 10 * dv (l.drop (i + 1))) := fun l => by
    rcases Nat.lt_or_ge i l.length with h | h
    · rw [← dv_drop h]; exact dv_split l i (by omega)
    · rw [List.take_of_length_le h, List.drop_of_length_le (by omega), List.getD_eq_getElem?_getD, List.getElem?_eq_none h]; simp [dv]
  have la : dv (a.take i) < 10 ^ i := Int.lt_of_lt_of_le (dv_lt (ha.take i)) (pow_le (by rw [List.length_take]; omega))
  have lb := dv_nonneg (hb.take i).nn
  rw [e a, e b, hsame]
  generalize 10 * dv (b.drop (i + 1)) = t
  have h5 : (10 : Int) ^ i * (a.getD i 0 + t + 1) ≤ 10 ^ i * (b.getD i 0 + t) := Int.mul_le_mul_of_nonneg_left (by omega) (Int.le_of_lt (Int.pow_pos (by omega)))
  rw [Int.mul_add, Int.mul_one] at h5
  omega
end Go.Ev.Dec
namespace Go.Ev.Box
open Go.Ev.Dec

/-! # The reference's numbers -/
theorem f28_eqn (m s : Int) : f28 (m, s, ()) = some (decide (Rt m s), ()) := by
  unfold f28
  dsimp only
  have e : Int.tmod m 10 = 0 ↔ m % 10 = 0 := by
    rw [← Int.dvd_iff_tmod_eq_zero, Int.dvd_iff_emod_eq_zero]
  by_cases h1 : m ≥ -999999999999999999
  · rw [if_pos (by rw [decide_eq_true_eq]; exact h1)]
    by_cases h2 : m ≤ 999999999999999999
    · rw [if_pos (by rw [decide_eq_true_eq]; exact h2)]
      by_cases h3 : s ≥ 0
      · rw [if_pos (by rw [decide_eq_true_eq]; exact h3)]
        by_cases h4 : s ≤ 9
        · rw [if_pos (by rw [decide_eq_true_eq]; exact h4)]
          by_cases h5 : s = 0
          · rw [if_pos (by rw [beq_iff_eq]; exact h5), decide_eq_true (show Rt m s from ⟨h1, h2, h3, h4, .inl h5⟩)]
          · rw [if_neg (by rw [beq_iff_eq]; exact h5)]
            by_cases h6 : m % 10 = 0
            · rw [decide_eq_false (fun h : Rt m s => h.2.2.2.2.elim h5 (fun h => h h6)), e.2 h6]; rfl
            · rw [decide_eq_true (show Rt m s from ⟨h1, h2, h3, h4, .inr h6⟩)]
              congr 2
              rw [bne_iff_ne]; exact fun h => h6 (e.1 h)
        · rw [if_neg (by rw [decide_eq_true_eq]; exact h4), decide_eq_false (fun h : Rt m s => h4 h.2.2.2.1)]
      · rw [if_neg (by rw [decide_eq_true_eq]; exact h3), decide_eq_false (fun h : Rt m s => h3 h.2.2.1)]
    · rw [if_neg (by rw [decide_eq_true_eq]; exact h2), decide_eq_false (fun h : Rt m s => h2 h.2.1)]
  · rw [if_neg (by rw [decide_eq_true_eq]; exact h1), decide_eq_false (fun h : Rt m s => h1 h.1)]

theorem l52_1_spec (b0 b1 : Bool) (s0 s1 : Int) : ∀ (k n : Nat) (acc : List Int), n < 1000000000000000000 → n < 10 ^ k → acc.length + k ≤ 1000 → 0 < k →
    ∃ D, Dg D ∧ dv D = n ∧ acc.length + D.length ≤ acc.length + k ∧ loopN g52_1 o52_1 b52_1 (k + 1) ((n : Int), b0, s0, b1, s1, [], acc, ()) = some (.inl (b0, s0, b1, s1, [], acc ++ D, ())) := by
  intro k
  induction k with
  | zero => intro n acc _ _ _ h; omega
  | succ k ih =>
    intro n acc hn hk hl _
    rw [loopN_succ]
    by_cases h0 : n = 0
    · subst h0
      generalize hL : loopN g52_1 o52_1 b52_1 (k + 1) = L
      unfold b52_1
      dsimp only
      rw [if_neg (by rw [decide_eq_true_eq]; omega), if_pos rfl, if_pos rfl]
      exact ⟨[], fun x hx => (by cases hx), rfl, by simp, by rw [List.append_nil]; rfl⟩
    · have hm : Int.tmod (n : Int) 10 = ((n % 10 : Nat) : Int) := rfl
      have hd : Int.tdiv (n : Int) 10 = ((n / 10 : Nat) : Int) := rfl
      have step : b52_1 ((n : Int), b0, s0, b1, s1, [], acc, ()) = some (.inl (((n / 10 : Nat) : Int), b0, s0, b1, s1, [], acc ++ [((n % 10 : Nat) : Int)], ())) := by
        unfold b52_1
        dsimp only
        have e : List.take 1 (List.drop 0 (List.set (List.replicate 1 (0 : Int)) 0 (Int.tmod (n : Int) 10))) = [((n % 10 : Nat) : Int)] := rfl
        rw [e, hd, if_pos (by rw [decide_eq_true_eq]; omega), if_pos (by simp; omega), if_pos rfl, if_pos rfl, wrap_i64 (by omega), List.drop_zero, List.take_length]
      rw [step, Option.bind_some, Sum.elim_inl]
      by_cases hk0 : k = 0
      · subst hk0
        have h10 : n < 10 := by simpa using hk
        have hz : n / 10 = 0 := by omega
        rw [hz]
        rw [loopN_succ]
        generalize loopN g52_1 o52_1 b52_1 0 = L
        unfold b52_1
        dsimp only
        rw [if_neg (by rw [decide_eq_true_eq]; omega), if_pos rfl, if_pos rfl]
        refine ⟨[((n % 10 : Nat) : Int)], Dg.one (by omega), by simp [dv]; omega, by simp, rfl⟩
      · obtain ⟨D, h1, h2, h3, h4⟩ := ih (n / 10) (acc ++ [((n % 10 : Nat) : Int)]) (by omega) (by rw [Nat.pow_succ] at hk; omega) (by simp; omega) (by omega)
        refine ⟨((n % 10 : Nat) : Int) :: D, (Dg.one (x := ((n % 10 : Nat) : Int)) (by omega)).append h1, by simp only [dv, h2]; omega, by simp only [List.length_cons, List.length_append, List.length_nil] at h3 ⊢; omega, ?_⟩
        rw [h4, List.append_assoc]; rfl
theorem loop_more {g : Sg} {outs : Outs} {f : g.D → Option (outD ((.normal, g) :: outs))} : ∀ (k j : Nat) (x : g.D) (y : outD outs), loopN g outs f k x = some y → loopN g outs f (k + j) x = some y := by
  intro k
  induction k with
  | zero => intro j x y h; cases h
  | succ k ih =>
    intro j x y h
    rw [show k + 1 + j = (k + j) + 1 by omega, loopN_succ]
    rw [loopN_succ] at h
    cases hf : f x with
    | none => rw [hf] at h; cases h
    | some z =>
      rw [hf] at h
      simp only [Option.bind_some] at h ⊢
      cases z with
      | inl a => simp only [Sum.elim_inl] at h ⊢; exact ih j a y h
      | inr b => simp only [Sum.elim_inr] at h ⊢; exact h
theorem f52_eqn {m s : Int} (h : -999999999999999999 ≤ m ∧ m ≤ 999999999999999999) : ∃ D, Dg D ∧ dv D = m.natAbs ∧ D.length ≤ 18 ∧ f52 (m, s, ()) = some (decide (m < 0), D, s, ()) := by
  have hb : m.natAbs < 1000000000000000000 := by omega
  obtain ⟨D, h1, h2, h3, h4⟩ := l52_1_spec false (decide (m < 0)) 0 s 18 m.natAbs [] hb (by omega) (by decide) (by decide)
  have h5 := loop_more 19 (18446744073709551616 - 19) _ _ h4
  rw [show 19 + (18446744073709551616 - 19) = 18446744073709551616 from rfl, List.nil_append] at h5
  refine ⟨D, h1, h2, by simpa using h3, ?_⟩
  unfold f52
  dsimp only
  rw [show l52_1 = loopN g52_1 o52_1 b52_1 18446744073709551616 from rfl]
  by_cases hn : m < 0
  · have e : IntKind.wrap .i64 (0 - m) = ((m.natAbs : Nat) : Int) := by rw [wrap_i64 (by omega)]; omega
    rw [if_pos (by rw [decide_eq_true_eq]; exact hn), e]
    generalize loopN g52_1 o52_1 b52_1 18446744073709551616 ((m.natAbs : Int), false, 0, decide (m < 0), s, [], [], ()) = X at h5 ⊢
    subst h5
    rw [Option.bind_some, Sum.elim_inl]
    dsimp only
    rw [List.drop_zero, List.take_length]
  · have e : m = ((m.natAbs : Nat) : Int) := by omega
    rw [if_neg (by rw [decide_eq_true_eq]; exact hn)]
    have h6 : loopN g52_1 o52_1 b52_1 18446744073709551616 (m, false, 0, decide (m < 0), s, [], [], ()) = some (.inl (false, 0, decide (m < 0), s, [], D, ())) := by
      rw [← h5]; congr 2
    generalize loopN g52_1 o52_1 b52_1 18446744073709551616 (m, false, 0, decide (m < 0), s, [], [], ()) = X at h6 ⊢
    subst h6
    rw [Option.bind_some, Sum.elim_inl]
    dsimp only
    rw [List.drop_zero, List.take_length]

theorem f60_eqn (l : List Int) (i : Nat) : f60 (l, (i : Int), ()) = some (l.getD i 0, ()) := by
  unfold f60
  dsimp only
  rw [if_neg (by rw [decide_eq_true_eq]; omega)]
  rcases Nat.lt_or_ge i l.length with h | h
  · rw [if_neg (by rw [decide_eq_true_eq]; omega), if_pos (by omega), if_pos (by omega), Int.toNat_natCast]
  · rw [if_pos (by rw [decide_eq_true_eq]; omega), List.getD_eq_getElem?_getD, List.getElem?_eq_none h]
    rfl
end Go.Ev.Box
namespace Go.Ev.Box
open Go.Ev.Dec

theorem getD_drop (l : List Int) (a i : Nat) : (l.drop a).getD i 0 = l.getD (a + i) 0 := by
  simp only [List.getD_eq_getElem?_getD, List.getElem?_drop]
theorem l61_1_spec {arr : List Int} (hg : Dg arr) (b : Bool) (D0 : List Int) (s0 c d : Int) : ∀ (k s start : Nat), s < k → s < 1000 → start ≤ arr.length →
    ∃ start' s' : Nat, start' ≤ arr.length ∧ strip (dv (arr.drop start)).toNat s = ((dv (arr.drop start')).toNat, s') ∧
    loopN g61_1 o61_1 b61_1 k (start, arr.length - start, (s : Int), b, D0, s0, c, d, arr, ()) = some (.inl (start', arr.length - start', (s' : Int), b, D0, s0, c, d, arr, ())) := by
  intro k
  induction k with
  | zero => intro s start h; omega
  | succ k ih =>
    intro s start h1 h2 h3
    rw [loopN_succ]
    generalize hL : loopN g61_1 o61_1 b61_1 k = L at ih ⊢
    unfold b61_1
    dsimp only
    cases s with
    | zero =>
      rw [if_neg (by rw [decide_eq_true_eq]; omega)]
      exact ⟨start, 0, h3, rfl, rfl⟩
    | succ s =>
      have hV : List.take (arr.length - start) (arr.drop start) = arr.drop start := List.take_of_length_le (by rw [List.length_drop]; omega)
      have hw : IntKind.wrap .i64 (((s + 1 : Nat) : Int) - 1) = ((s : Nat) : Int) := by rw [wrap_i64 (by omega)]; omega
      have f0 : f60 (arr.drop start, 0, ()) = _ := f60_eqn (arr.drop start) 0
      rw [if_pos (by rw [decide_eq_true_eq]; omega), hV, f0, Option.bind_some, hw]
      dsimp only
      obtain ⟨e1, e2⟩ := dv_head _ (hg.drop start)
      have hnn := dv_nonneg (hg.drop start).nn
      unfold strip
      by_cases hz : (arr.drop start).getD 0 0 = 0
      · rw [if_pos (show (dv (arr.drop start)).toNat % 10 = 0 by rw [hz] at e1; omega), if_pos (by rw [beq_iff_eq]; exact hz)]
        by_cases hlt : start < arr.length
        · rw [if_pos (by rw [decide_eq_true_eq]; omega), if_pos (by omega), Option.bind_some, Sum.elim_inl]
          rw [List.drop_drop] at e2
          have e3 : (dv (arr.drop start)).toNat / 10 = (dv (arr.drop (start + 1))).toNat := by rw [← e2]; omega
          rw [e3, show arr.length - start - 1 = arr.length - (start + 1) by omega]
          exact ih s (start + 1) (by omega) (by omega) hlt
        · rw [if_neg (by rw [decide_eq_true_eq]; omega), Option.bind_some, Sum.elim_inl]
          have hnil : arr.drop start = [] := List.drop_of_length_le (by omega)
          have e3 : (dv (arr.drop start)).toNat / 10 = (dv (arr.drop start)).toNat := by rw [hnil]; rfl
          rw [e3]
          exact ih s start (by omega) (by omega) h3
      · rw [if_neg (show ¬ (dv (arr.drop start)).toNat % 10 = 0 by omega), if_neg (by rw [beq_iff_eq]; exact hz)]
        exact ⟨start, s + 1, h3, rfl, rfl⟩
theorem l61_2_spec {arr : List Int} (hl : arr.length ≤ 1000) (start : Nat) (s : Int) (b : Bool) (D0 : List Int) (s0 c d : Int) : ∀ (k len : Nat), len < k → start + len ≤ arr.length →
    ∃ len' : Nat, len' ≤ len ∧ dv ((arr.drop start).take len') = dv ((arr.drop start).take len) ∧ (len' = 0 ∨ (arr.drop start).getD (len' - 1) 0 ≠ 0) ∧
    loopN g61_2 o61_2 b61_2 k (start, len, s, b, D0, s0, c, d, arr, ()) = some (.inl (start, len', s, b, D0, s0, c, d, arr, ())) := by
  intro k
  induction k with
  | zero => intro len h; omega
  | succ k ih =>
    intro len h1 h2
    rw [loopN_succ]
    generalize hL : loopN g61_2 o61_2 b61_2 k = L at ih ⊢
    unfold b61_2
    dsimp only
    cases len with
    | zero =>
      rw [if_neg (by rw [decide_eq_true_eq]; omega)]
      exact ⟨0, Nat.le_refl _, rfl, .inl rfl, rfl⟩
    | succ len =>
      have hw : IntKind.wrap .i64 (((len + 1 : Nat) : Int) - 1) = ((len : Nat) : Int) := by rw [wrap_i64 (by omega)]; omega
      rw [if_pos (by rw [decide_eq_true_eq]; omega), hw, if_pos (by omega), if_pos (by omega), Int.toNat_natCast]
      have hg : (arr.drop start).getD len 0 = arr.getD (start + len) 0 := getD_drop arr start len
      by_cases hz : arr.getD (start + len) 0 = 0
      · rw [if_pos (by rw [beq_iff_eq]; exact hz), if_pos (by omega), if_pos (by omega), Option.bind_some, Sum.elim_inl]
        obtain ⟨len', g1, g2, g3, g4⟩ := ih len (by omega) (by omega)
        refine ⟨len', by omega, ?_, g3, g4⟩
        rw [g2, dv_take_next, hg, hz]; simp
      · rw [if_neg (by rw [beq_iff_eq]; exact hz)]
        exact ⟨len + 1, Nat.le_refl _, rfl, .inr (by rw [show len + 1 - 1 = len from rfl, hg]; exact hz), rfl⟩
theorem l61_3_spec {arr : List Int} (hg : Dg arr) (start len : Nat) (hle : start + len ≤ arr.length) (hlen : len ≤ 18) (s : Int) (b : Bool) (D0 : List Int) (s0 c d : Int) : ∀ (k j : Nat), j < k → j ≤ len →
    loopN g61_3 o61_3 b61_3 k (start, len, s, dv (((arr.drop start).take len).drop j), (j : Int) - 1, b, D0, s0, c, d, arr, ()) = some (.inl (s, dv ((arr.drop start).take len), b, D0, s0, c, d, ())) := by
  intro k
  induction k with
  | zero => intro j h; omega
  | succ k ih =>
    intro j h1 h2
    rw [loopN_succ]
    generalize hL : loopN g61_3 o61_3 b61_3 k = L at ih ⊢
    unfold b61_3
    dsimp only
    cases j with
    | zero =>
      rw [if_neg (by rw [decide_eq_true_eq]; omega), List.drop_zero]
      rfl
    | succ j =>
      have hj : ((j + 1 : Nat) : Int) - 1 = (j : Int) := by omega
      rw [hj, if_pos (by rw [decide_eq_true_eq]; omega), if_pos (by omega), if_pos (by omega), Int.toNat_natCast, Option.bind_some, Sum.elim_inl]
      have hVl : ((arr.drop start).take len).length = len := by rw [List.length_take, List.length_drop]; omega
      have hVg : Dg ((arr.drop start).take len) := (hg.drop start).take len
      have hd := dv_drop (l := (arr.drop start).take len) (i := j) (by omega)
      have he : ((arr.drop start).take len).getD j 0 = arr.getD (start + j) 0 := by
        simp only [List.getD_eq_getElem?_getD, List.getElem?_take, List.getElem?_drop]
        rw [if_pos (by omega)]
      have hlt : dv (((arr.drop start).take len).drop j) < 1000000000000000000 := by
        have := dv_lt (hVg.drop j)
        have h3 := pow_le (a := (((arr.drop start).take len).drop j).length) (b := 18) (by rw [List.length_drop]; omega)
        have h4 : (10 : Int) ^ 18 = 1000000000000000000 := by decide
        omega
      have hnn := dv_nonneg (hVg.drop (j + 1)).nn
      have hdg := hVg.getD j
      rw [he] at hd hdg
      have e1 : IntKind.wrap .i64 (10 * dv (((arr.drop start).take len).drop (j + 1))) = 10 * dv (((arr.drop start).take len).drop (j + 1)) := wrap_i64 (by omega)
      rw [e1]
      have e2 : IntKind.wrap .i64 (10 * dv (((arr.drop start).take len).drop (j + 1)) + arr.getD (start + j) 0) = dv (((arr.drop start).take len).drop j) := by rw [wrap_i64 (by omega)]; omega
      rw [e2, show IntKind.wrap .i64 ((j : Int) - 1) = (j : Int) - 1 from wrap_i64 (by omega)]
      exact ih j (by omega) (by omega)
theorem f61_eqn (b : Bool) {D : List Int} {s : Nat} (hg : Dg D) (hl : D.length ≤ 1000) (hs : s < 1000) : f61 (b, D, (s : Int), ()) = some (told b (dv D).toNat s) := by
  unfold f61
  dsimp only
  rw [if_pos (by omega), if_pos (.inr ⟨rfl, rfl⟩), List.nil_append]
  obtain ⟨st, s', h1, h2, h3⟩ := l61_1_spec hg b D (s : Int) 0 0 18446744073709551616 s 0 (by omega) hs (Nat.zero_le _)
  rw [Nat.sub_zero, List.drop_zero] at *
  rw [show l61_1 = loopN g61_1 o61_1 b61_1 18446744073709551616 from rfl]
  generalize loopN g61_1 o61_1 b61_1 18446744073709551616 (0, D.length, (s : Int), b, D, (s : Int), 0, 0, D, ()) = X at h3 ⊢
  subst h3
  rw [Option.bind_some, Sum.elim_inl]
  dsimp only
  obtain ⟨len, g1, g2, g3, g4⟩ := l61_2_spec hl st (s' : Int) b D (s : Int) 0 0 18446744073709551616 (D.length - st) (by omega) (by omega)
  rw [List.take_of_length_le (show (D.drop st).length ≤ D.length - st by rw [List.length_drop]; omega)] at g2
  rw [show l61_2 = loopN g61_2 o61_2 b61_2 18446744073709551616 from rfl]
  generalize loopN g61_2 o61_2 b61_2 18446744073709551616 (st, D.length - st, (s' : Int), b, D, (s : Int), 0, 0, D, ()) = X at g4 ⊢
  subst g4
  rw [Option.bind_some, Sum.elim_inl]
  dsimp only
  have hVl : ((D.drop st).take len).length = len := by rw [List.length_take, List.length_drop]; omega
  have hVg : Dg ((D.drop st).take len) := (hg.drop st).take len
  have hVn := dv_nonneg hVg.nn
  unfold told
  rw [h2]
  dsimp only
  have big : 18 < len ↔ 999999999999999999 < (dv (D.drop st)).toNat := by
    rw [← g2]
    constructor
    · intro h
      rcases g3 with g3 | g3
      · omega
      · have e : ((D.drop st).take len).getD (len - 1) 0 = (D.drop st).getD (len - 1) 0 := by
          simp only [List.getD_eq_getElem?_getD, List.getElem?_take]
          rw [if_pos (by omega)]
        have h5 := dv_ge hVg (n := len - 1) (by omega) (by rw [e]; exact g3)
        have h6 := pow_le (a := 18) (b := len - 1) (by omega)
        have h4 : (10 : Int) ^ 18 = 1000000000000000000 := by decide
        omega
    · intro h
      refine Nat.lt_of_not_le fun hle => ?_
      have h5 := dv_lt hVg
      rw [hVl] at h5
      have h6 := pow_le (a := len) (b := 18) hle
      have h4 : (10 : Int) ^ 18 = 1000000000000000000 := by decide
      omega
  by_cases c1 : 18 < len
  · rw [if_pos (by rw [decide_eq_true_eq]; omega), if_pos (.inl (big.1 c1))]
  · rw [if_neg (by rw [decide_eq_true_eq]; omega)]
    by_cases c2 : 9 < s'
    · rw [if_pos (by rw [decide_eq_true_eq]; omega), if_pos (.inr c2)]
    · rw [if_neg (by rw [decide_eq_true_eq]; omega), if_neg (show ¬ (999999999999999999 < (dv (D.drop st)).toNat ∨ 9 < s') from fun h => h.elim (fun h => c1 (big.2 h)) c2)]
      have k := l61_3_spec hg st len (by omega) (by omega) (s' : Int) b D (s : Int) 0 0 18446744073709551616 len (by omega) (Nat.le_refl _)
      rw [List.drop_of_length_le (show ((D.drop st).take len).length ≤ len by omega)] at k
      have hw : IntKind.wrap .i64 ((len : Int) - 1) = (len : Int) - 1 := wrap_i64 (by omega)
      rw [hw]
      have k' : loopN g61_3 o61_3 b61_3 18446744073709551616 (st, len, (s' : Int), 0, (len : Int) - 1, b, D, (s : Int), 0, 0, D, ()) = _ := k
      rw [show l61_3 = loopN g61_3 o61_3 b61_3 18446744073709551616 from rfl]
      generalize loopN g61_3 o61_3 b61_3 18446744073709551616 (st, len, (s' : Int), 0, (len : Int) - 1, b, D, (s : Int), 0, 0, D, ()) = X at k' ⊢
      subst k'
      rw [Option.bind_some, Sum.elim_inl]
      dsimp only
      rw [g2]
      have hnn := dv_nonneg (hg.drop st).nn
      have hsm : (dv (D.drop st)).toNat ≤ 999999999999999999 := by
        have := mt big.2 c1
        omega
      have e1 : IntKind.wrap .i64 (0 - dv (D.drop st)) = -((dv (D.drop st)).toNat : Int) := by rw [wrap_i64 (by omega)]; omega
      have e2 : dv (D.drop st) = ((dv (D.drop st)).toNat : Int) := by omega
      rw [e1]
      cases b with
      | true => rfl
      | false =>
        rw [if_neg (by decide), if_neg (by decide), ← e2]
end Go.Ev.Box
namespace Go.Ev.Box
open Go.Ev.Dec

/-! ## Lifted, less -/
theorem l53_1_spec (S : Nat) (hS : S ≤ 1000) (b b0 b1 : Bool) (D : List Int) (s c0 : Int) : ∀ (k i : Nat) (acc : List Int), S < i + k → i ≤ S → acc.length ≤ i →
    loopN g53_1 o53_1 b53_1 k ((S : Int), b, D, s, b0, c0, b1, (i : Int), [], acc, ()) = some (.inl (b, D, s, b0, c0, b1, (S : Int), [], acc ++ List.replicate (S - i) 0, ())) := by
  intro k
  induction k with
  | zero => intro i acc h1 h2; omega
  | succ k ih =>
    intro i acc h1 h2 h3
    rw [loopN_succ]
    generalize hL : loopN g53_1 o53_1 b53_1 k = L at ih ⊢
    unfold b53_1
    dsimp only
    rw [List.drop_zero, List.take_length]
    rcases Nat.lt_or_ge i S with h | h
    · have e : List.take 1 (List.drop 0 (List.set (List.replicate 1 (0 : Int)) 0 0)) = [0] := rfl
      rw [if_pos (by rw [decide_eq_true_eq]; omega), if_pos (by omega), if_pos rfl, if_pos rfl, e, Option.bind_some, Sum.elim_inl,
        show IntKind.wrap .i64 ((i : Int) + 1) = ((i + 1 : Nat) : Int) by rw [wrap_i64 (by omega)]; omega]
      have := ih (i + 1) (acc ++ [0]) (by omega) (by omega) (by simp; omega)
      rw [show S - i = (S - (i + 1)) + 1 by omega, List.replicate_succ]
      rw [List.append_assoc] at this
      exact this
    · rw [if_neg (by rw [decide_eq_true_eq]; omega), if_pos rfl, if_pos rfl, show S - i = 0 by omega, List.replicate_zero, List.append_nil, show i = S by omega]
      rfl
theorem f53_eqn (b : Bool) {D : List Int} {s S : Nat} (hl : D.length ≤ 1000) (hs : s ≤ S) (hS : S ≤ 1000) : f53 (b, D, (s : Int), (S : Int), ()) = some (b, List.replicate (S - s) 0 ++ D, (S : Int), ()) := by
  have h := l53_1_spec S hS b false b D (s : Int) 0 18446744073709551616 s [] (by omega) hs (Nat.zero_le _)
  rw [List.nil_append] at h
  have hR : (List.replicate (S - s) (0 : Int)).length ≤ 1000 := by rw [List.length_replicate]; omega
  generalize List.replicate (S - s) (0 : Int) = R at h hR ⊢
  unfold f53
  dsimp only
  rw [show l53_1 = loopN g53_1 o53_1 b53_1 18446744073709551616 from rfl]
  generalize loopN g53_1 o53_1 b53_1 18446744073709551616 ((S : Int), b, D, (s : Int), false, 0, b, (s : Int), [], [], ()) = X at h ⊢
  subst h
  rw [Option.bind_some, Sum.elim_inl]
  dsimp only
  rw [List.drop_zero, List.take_length, if_pos (by omega), List.drop_zero, List.take_length]

theorem l54_1_spec {a b : List Int} (ha : Dg a) (hb : Dg b) (hla : a.length ≤ 10000) (hlb : b.length ≤ 10000) : ∀ (k j : Nat), j < k → j ≤ max a.length b.length → dv (a.drop j) = dv (b.drop j) →
    (dv a = dv b ∧ loopN g54_1 o54_1 b54_1 k (a, b, (j : Int) - 1, ()) = some (.inl ())) ∨ loopN g54_1 o54_1 b54_1 k (a, b, (j : Int) - 1, ()) = some (.inr (.inl (decide (dv a < dv b), ()))) := by
  intro k
  induction k with
  | zero => intro j h; omega
  | succ k ih =>
    intro j h1 h2 h3
    rw [loopN_succ]
    generalize hL : loopN g54_1 o54_1 b54_1 k = L at ih ⊢
    unfold b54_1
    dsimp only
    cases j with
    | zero =>
      rw [if_neg (by rw [decide_eq_true_eq]; omega)]
      exact .inl ⟨by simpa using h3, rfl⟩
    | succ j =>
      have hj : ((j + 1 : Nat) : Int) - 1 = (j : Int) := by omega
      rw [hj, if_pos (by rw [decide_eq_true_eq]; omega), f60_eqn, Option.bind_some, f60_eqn, Option.bind_some]
      dsimp only
      by_cases he : a.getD j 0 = b.getD j 0
      · rw [if_neg (by rw [bne_iff_ne]; exact fun h => h he), Option.bind_some, Sum.elim_inl, show IntKind.wrap .i64 ((j : Int) - 1) = (j : Int) - 1 from wrap_i64 (by omega)]
        refine ih j (by omega) (by omega) ?_
        have e : ∀ l : List Int, dv (l.drop j) = l.getD j 0 + 10 * dv (l.drop (j + 1)) := fun l => by
          rcases Nat.lt_or_ge j l.length with h | h
          · exact dv_drop h
          · rw [List.drop_of_length_le h, List.drop_of_length_le (by omega), List.getD_eq_getElem?_getD, List.getElem?_eq_none h]; rfl
        rw [e a, e b, he, h3]
      · rw [if_pos (by rw [bne_iff_ne]; exact he), Option.bind_some, Option.bind_some]
        refine .inr ?_
        have key : decide (a.getD j 0 < b.getD j 0) = decide (dv a < dv b) := by
          rw [decide_eq_decide]
          constructor
          · exact fun h => less_top ha hb h3 h
          · intro h
            rcases Int.lt_trichotomy (a.getD j 0) (b.getD j 0) with h4 | h4 | h4
            · exact h4
            · exact absurd h4 he
            · have := less_top hb ha h3.symm h4; omega
        dsimp only
        rw [key]
        rfl
theorem f54_eqn {a b : List Int} (ha : Dg a) (hb : Dg b) (hla : a.length ≤ 10000) (hlb : b.length ≤ 10000) : f54 (a, b, ()) = some (decide (dv a < dv b), ()) := by
  unfold f54
  dsimp only
  have hM : max ((a.length : Nat) : Int) ((b.length : Nat) : Int) = ((max a.length b.length : Nat) : Int) := by omega
  rw [hM, show IntKind.wrap .i64 (((max a.length b.length : Nat) : Int) - 1) = ((max a.length b.length : Nat) : Int) - 1 from wrap_i64 (by omega)]
  have h := l54_1_spec ha hb hla hlb 18446744073709551616 (max a.length b.length) (by omega) (Nat.le_refl _) (by rw [List.drop_of_length_le (by omega), List.drop_of_length_le (by omega)])
  rw [show l54_1 = loopN g54_1 o54_1 b54_1 18446744073709551616 from rfl]
  generalize loopN g54_1 o54_1 b54_1 18446744073709551616 (a, b, ((max a.length b.length : Nat) : Int) - 1, ()) = X at h ⊢
  rcases h with ⟨h1, h2⟩ | h2
  · subst h2
    rw [decide_eq_false (by omega)]; rfl
  · subst h2; rfl

/-! ## Sums -/
theorem wrapS {n : Int} (h : -1000 ≤ n ∧ n ≤ 1000) : IntKind.wrap .i64 n = n := wrap_i64 (by omega)
theorem b62_2_eqn (rF : gi62.D → Option go62.D) {A B : List Int} (hA : Dg A) (hB : Dg B) (ba bb : Bool) (sa sb z0 S : Int) (fl bo : Bool) {c : Int} (hc : -1 ≤ c ∧ c ≤ 1) {at' : Nat} (hat : at' ≤ max A.length B.length) (hlen : A.length ≤ 10000 ∧ B.length ≤ 10000) {acc : List Int} (hacc : acc.length ≤ 100000) {n : Int}
    (hn : n = if (ba == bb) = true then A.getD at' 0 + c + B.getD at' 0 else A.getD at' 0 + c - B.getD at' 0) :
    b62_2 rF (c, (at' : Int), ba, A, sa, bb, B, sb, fl, z0, bo, S, [], acc, ()) = some (.inl ((if 9 < n then 1 else if n < 0 then -1 else 0), ((at' + 1 : Nat) : Int), ba, A, sa, bb, B, sb, fl, z0, bo, S, [], acc ++ [if 9 < n then n - 10 else if n < 0 then n + 10 else n], ())) := by
  have hM : max ((A.length : Nat) : Int) ((B.length : Nat) : Int) = ((max A.length B.length : Nat) : Int) := by omega
  have a1 := hA.getD at'
  have b1 := hB.getD at'
  have hw : IntKind.wrap .i64 ((at' : Int) + 1) = ((at' + 1 : Nat) : Int) := by rw [wrap_i64 (by omega)]; omega
  have e : ∀ v : Int, List.take 1 (List.drop 0 (List.set (List.replicate 1 (0 : Int)) 0 v)) = [v] := fun v => rfl
  unfold b62_2
  dsimp only
  rw [hM, if_pos (by rw [decide_eq_true_eq]; omega), f60_eqn, Option.bind_some, List.drop_zero, List.take_length]
  dsimp only
  simp only [e, List.length_singleton]
  have e1 : IntKind.wrap .i64 (A.getD at' 0 + c) = A.getD at' 0 + c := wrapS (by omega)
  by_cases hs : (ba == bb) = true
  · rw [if_pos hs] at hn
    have e2 : IntKind.wrap .i64 (A.getD at' 0 + c + B.getD at' 0) = n := by rw [wrapS (by omega)]; exact hn.symm
    rw [if_pos hs, f60_eqn, Option.bind_some]
    dsimp only
    rw [e1, e2]
    have hnb : -10 ≤ n ∧ n ≤ 19 := by omega
    clear e1 e2 hn
    have e3 : IntKind.wrap .i64 (n - 10) = n - 10 := wrapS (by omega)
    have e4 : IntKind.wrap .i64 (n + 10) = n + 10 := wrapS (by omega)
    rw [e3, e4, hw]
    by_cases c1 : 9 < n
    · rw [if_pos (show decide (n > 9) = true from decide_eq_true c1), if_neg (by rw [decide_eq_true_eq]; omega), if_pos (by omega), if_pos trivial, if_pos trivial, if_pos c1, if_pos c1]
    · rw [if_neg (show ¬ decide (n > 9) = true by rw [decide_eq_true_eq]; exact c1), if_neg c1, if_neg c1]
      by_cases c2 : n < 0
      · rw [if_pos (show decide (n < 0) = true from decide_eq_true c2), if_pos (by omega), if_pos trivial, if_pos trivial, if_pos c2, if_pos c2]
      · rw [if_neg (show ¬ decide (n < 0) = true by rw [decide_eq_true_eq]; exact c2), if_pos (by omega), if_pos trivial, if_pos trivial, if_neg c2, if_neg c2]
  · rw [if_neg hs] at hn
    have e2 : IntKind.wrap .i64 (A.getD at' 0 + c - B.getD at' 0) = n := by rw [wrapS (by omega)]; exact hn.symm
    rw [if_neg hs, f60_eqn, Option.bind_some]
    dsimp only
    rw [e1, e2]
    have hnb : -10 ≤ n ∧ n ≤ 19 := by omega
    clear e1 e2 hn
    have e3 : IntKind.wrap .i64 (n - 10) = n - 10 := wrapS (by omega)
    have e4 : IntKind.wrap .i64 (n + 10) = n + 10 := wrapS (by omega)
    rw [e3, e4, hw]
    by_cases c1 : 9 < n
    · rw [if_pos (show decide (n > 9) = true from decide_eq_true c1), if_neg (by rw [decide_eq_true_eq]; omega), if_pos (by omega), if_pos trivial, if_pos trivial, if_pos c1, if_pos c1]
    · rw [if_neg (show ¬ decide (n > 9) = true by rw [decide_eq_true_eq]; exact c1), if_neg c1, if_neg c1]
      by_cases c2 : n < 0
      · rw [if_pos (show decide (n < 0) = true from decide_eq_true c2), if_pos (by omega), if_pos trivial, if_pos trivial, if_pos c2, if_pos c2]
      · rw [if_neg (show ¬ decide (n < 0) = true by rw [decide_eq_true_eq]; exact c2), if_pos (by omega), if_pos trivial, if_pos trivial, if_neg c2, if_neg c2]
end Go.Ev.Box
namespace Go.Ev.Box
open Go.Ev.Dec

def sgO (s : Bool) : Int := if s = true then 1 else -1
theorem l62_2_spec (rF : gi62.D → Option go62.D) {A B : List Int} (hA : Dg A) (hB : Dg B) (ba bb : Bool) (sa sb z0 S : Int) (fl bo : Bool) (hla : A.length ≤ 10000) (hlb : B.length ≤ 10000) : ∀ (k i : Nat) (acc : List Int) (c : Int), max A.length B.length + 1 < i + k → i ≤ max A.length B.length + 1 → -1 ≤ c ∧ c ≤ 1 → Dg acc → acc.length = i →
    dv acc + 10 ^ i * c = dv (A.take i) + sgO (ba == bb) * dv (B.take i) →
    ∃ (out : List Int) (c' : Int), Dg out ∧ out.length = max A.length B.length + 1 ∧ (-1 ≤ c' ∧ c' ≤ 1) ∧ dv out + 10 ^ (max A.length B.length + 1) * c' = dv A + sgO (ba == bb) * dv B ∧
    loopN g62_2 o62_2 (b62_2 rF) k (c, (i : Int), ba, A, sa, bb, B, sb, fl, z0, bo, S, [], acc, ()) = some (.inl (fl, z0, bo, S, [], out, ())) := by
  intro k
  induction k with
  | zero => intro i acc c h1 h2; omega
  | succ k ih =>
    intro i acc c h1 h2 hc hg hl hv
    rw [loopN_succ]
    generalize hL : loopN g62_2 o62_2 (b62_2 rF) k = L at ih ⊢
    rcases Nat.lt_or_ge (max A.length B.length) i with h | h
    · have hM : max ((A.length : Nat) : Int) ((B.length : Nat) : Int) = ((max A.length B.length : Nat) : Int) := by omega
      refine ⟨acc, c, hg, by omega, hc, ?_, ?_⟩
      · rw [show max A.length B.length + 1 = i by omega, hv, dv_take_ge (by omega), dv_take_ge (by omega)]
      · unfold b62_2
        dsimp only
        rw [hM, if_neg (by rw [decide_eq_true_eq]; omega), if_pos rfl, if_pos rfl]
        rfl
    · have a1 := hA.getD i
      have b1 := hB.getD i
      rw [b62_2_eqn rF hA hB ba bb sa sb z0 S fl bo hc h ⟨hla, hlb⟩ (by omega) rfl, Option.bind_some, Sum.elim_inl]
      have hn : (if (ba == bb) = true then A.getD i 0 + c + B.getD i 0 else A.getD i 0 + c - B.getD i 0) = A.getD i 0 + c + sgO (ba == bb) * B.getD i 0 := by
        unfold sgO
        by_cases hs : (ba == bb) = true
        · rw [if_pos hs, if_pos hs]; omega
        · rw [if_neg hs, if_neg hs]; omega
      have hnb : -10 ≤ (if (ba == bb) = true then A.getD i 0 + c + B.getD i 0 else A.getD i 0 + c - B.getD i 0) ∧ (if (ba == bb) = true then A.getD i 0 + c + B.getD i 0 else A.getD i 0 + c - B.getD i 0) ≤ 19 := by
        by_cases hs : (ba == bb) = true
        · rw [if_pos hs]; omega
        · rw [if_neg hs]; omega
      generalize (if (ba == bb) = true then A.getD i 0 + c + B.getD i 0 else A.getD i 0 + c - B.getD i 0) = n at hn hnb ⊢
      refine ih (i + 1) _ _ (by omega) (by omega) ?_ (hg.append (Dg.one ?_)) (by rw [List.length_append, hl]; rfl) ?_
      · split
        · omega
        · split <;> omega
      · split
        · omega
        · split <;> omega
      · have hd : (if 9 < n then n - 10 else if n < 0 then n + 10 else n) + 10 * (if 9 < n then 1 else if n < 0 then -1 else 0) = n := by
          split
          · omega
          · split <;> omega
        generalize (if 9 < n then n - 10 else if n < 0 then n + 10 else n) = d at hd ⊢
        generalize (if 9 < n then (1 : Int) else if n < 0 then -1 else 0) = c2 at hd ⊢
        rw [dv_append, hl, dv_take_next, dv_take_next, Int.pow_succ]
        have e1 : dv [d] = d := by simp [dv]
        rw [e1, show (d : Int) = n - 10 * c2 by omega, hn]
        generalize (10 : Int) ^ i = p at hv ⊢
        generalize dv (A.take i) = x at hv ⊢
        generalize dv (B.take i) = y at hv ⊢
        generalize A.getD i 0 = u
        generalize B.getD i 0 = v
        generalize sgO (ba == bb) = g at hv ⊢
        grind

/-- One round of the sum. -/
theorem r62_eqn (rF : gi62.D → Option go62.D) {A B : List Int} (hA : Dg A) (hB : Dg B) (ba bb : Bool) {sa sb : Nat} (hla : A.length ≤ 300) (hlb : B.length ≤ 300) (hsa : sa ≤ 300) (hsb : sb ≤ 300) :
    (((ba == bb) = true ∨ dv B * 10 ^ (max sa sb - sb) ≤ dv A * 10 ^ (max sa sb - sa)) ∧ ∃ out, Dg out ∧ out.length ≤ 1000 ∧ dv out = dv A * 10 ^ (max sa sb - sa) + sgO (ba == bb) * (dv B * 10 ^ (max sa sb - sb)) ∧
      r62 rF (ba, A, (sa : Int), bb, B, (sb : Int), ()) = some (ba, out, ((max sa sb : Nat) : Int), ())) ∨
    ((ba == bb) = false ∧ dv A * 10 ^ (max sa sb - sa) < dv B * 10 ^ (max sa sb - sb) ∧ r62 rF (ba, A, (sa : Int), bb, B, (sb : Int), ()) = (rF (bb, List.replicate (max sa sb - sb) 0 ++ B, ((max sa sb : Nat) : Int), ba, List.replicate (max sa sb - sa) 0 ++ A, ((max sa sb : Nat) : Int), ())).bind fun y => some (y.1, y.2.1, y.2.2.1, ())) := by
  have hM : max ((sa : Nat) : Int) ((sb : Nat) : Int) = ((max sa sb : Nat) : Int) := by omega
  have k1 : sa ≤ max sa sb := Nat.le_max_left _ _
  have k2 : sb ≤ max sa sb := Nat.le_max_right _ _
  have k3 : max sa sb ≤ 300 := by omega
  unfold r62
  dsimp only
  rw [hM]
  generalize max sa sb = S at k1 k2 k3 ⊢
  rw [f53_eqn ba (by omega) k1 (by omega), Option.bind_some, f53_eqn bb (by omega) k2 (by omega), Option.bind_some]
  dsimp only
  have vA : dv (List.replicate (S - sa) 0 ++ A) = dv A * 10 ^ (S - sa) := by rw [dv_append, dv_zeros, List.length_replicate, Int.zero_add, Int.mul_comm]
  have vB : dv (List.replicate (S - sb) 0 ++ B) = dv B * 10 ^ (S - sb) := by rw [dv_append, dv_zeros, List.length_replicate, Int.zero_add, Int.mul_comm]
  have zg : ∀ n : Nat, Dg (List.replicate n (0 : Int)) := fun n x hx => by rw [(List.mem_replicate.1 hx).2]; omega
  have gA : Dg (List.replicate (S - sa) 0 ++ A) := (zg _).append hA
  have gB : Dg (List.replicate (S - sb) 0 ++ B) := (zg _).append hB
  have lA : (List.replicate (S - sa) 0 ++ A).length ≤ 600 := by rw [List.length_append, List.length_replicate]; omega
  have lB : (List.replicate (S - sb) 0 ++ B).length ≤ 600 := by rw [List.length_append, List.length_replicate]; omega
  rw [← vA, ← vB]
  generalize List.replicate (S - sa) 0 ++ A = A' at gA lA ⊢
  generalize List.replicate (S - sb) 0 ++ B = B' at gB lB ⊢
  have fin : ((ba == bb) = true ∨ dv B' ≤ dv A') → ∃ out, Dg out ∧ out.length ≤ 1000 ∧ dv out = dv A' + sgO (ba == bb) * dv B' ∧
      l62_2 rF (0, 0, ba, A', (S : Int), bb, B', (S : Int), false, 0, ba, (S : Int), [], [], ()) = some (.inl (false, 0, ba, (S : Int), [], out, ())) := fun hcase => by
    obtain ⟨out, c', g1, g2, g3, g4, g5⟩ := l62_2_spec rF gA gB ba bb (S : Int) (S : Int) 0 (S : Int) false ba (by omega) (by omega) 18446744073709551616 0 [] 0 (by omega) (by omega) (by omega) (fun x hx => by cases hx) rfl (by simp [dv])
    have hlt := dv_lt g1
    rw [g2] at hlt
    have hnn := dv_nonneg g1.nn
    have hA0 := dv_nonneg gA.nn
    have hB0 := dv_nonneg gB.nn
    have hA1 : dv A' < 10 ^ (max A'.length B'.length) := Int.lt_of_lt_of_le (dv_lt gA) (pow_le (Nat.le_max_left _ _))
    have hB1 : dv B' < 10 ^ (max A'.length B'.length) := Int.lt_of_lt_of_le (dv_lt gB) (pow_le (Nat.le_max_right _ _))
    have hp : (10 : Int) ^ (max A'.length B'.length + 1) = 10 * 10 ^ (max A'.length B'.length) := by rw [Int.pow_succ, Int.mul_comm]
    have hc0 : c' = 0 := by
      rw [hp] at g4 hlt
      generalize (10 : Int) ^ (max A'.length B'.length) = p at *
      have hc' : c' = -1 ∨ c' = 0 ∨ c' = 1 := by omega
      unfold sgO at g4
      rcases hc' with e | e | e
      · subst e
        exfalso
        rcases hcase with h | h
        · rw [if_pos h] at g4; omega
        · by_cases hs : (ba == bb) = true
          · rw [if_pos hs] at g4; omega
          · rw [if_neg hs] at g4; omega
      · exact e
      · subst e
        exfalso
        by_cases hs : (ba == bb) = true
        · rw [if_pos hs] at g4; omega
        · rw [if_neg hs] at g4; omega
    rw [hc0, Int.mul_zero, Int.add_zero] at g4
    exact ⟨out, g1, by omega, g4, g5⟩
  unfold b62_1
  dsimp only
  by_cases hs : (ba == bb) = true
  · rw [if_neg (by rw [hs]; decide), if_pos rfl, Option.bind_some, Sum.elim_inl]
    dsimp only
    rw [if_neg (by decide), if_pos rfl]
    obtain ⟨out, g1, g2, g3, g4⟩ := fin (.inl hs)
    refine .inl ⟨.inl hs, out, g1, g2, g3, ?_⟩
    generalize l62_2 rF (0, 0, ba, A', (S : Int), bb, B', (S : Int), false, 0, ba, (S : Int), [], [], ()) = X at g4 ⊢
    subst g4
    rw [Option.bind_some, Sum.elim_inl]
    dsimp only
    rw [List.drop_zero, List.take_length]
  · have hs' : (ba == bb) = false := by simpa using hs
    rw [if_pos (by rw [hs']; rfl), f54_eqn gA gB (by omega) (by omega), Option.bind_some, if_pos rfl, Option.bind_some, Sum.elim_inl]
    dsimp only
    by_cases hlt : dv A' < dv B'
    · rw [if_pos (decide_eq_true hlt)]
      exact .inr ⟨hs', hlt, rfl⟩
    · rw [if_neg (by rw [decide_eq_true_eq]; exact hlt), if_pos rfl]
      obtain ⟨out, g1, g2, g3, g4⟩ := fin (.inr (by omega))
      refine .inl ⟨.inr (by omega), out, g1, g2, g3, ?_⟩
      generalize l62_2 rF (0, 0, ba, A', (S : Int), bb, B', (S : Int), false, 0, ba, (S : Int), [], [], ()) = X at g4 ⊢
      subst g4
      rw [Option.bind_some, Sum.elim_inl]
      dsimp only
      rw [List.drop_zero, List.take_length]
end Go.Ev.Box
namespace Go.Ev.Box
open Go.Ev.Dec

def sgB (b : Bool) : Int := if b = true then -1 else 1
theorem f62_eqn {A B : List Int} (hA : Dg A) (hB : Dg B) (ba bb : Bool) {sa sb : Nat} (hla : A.length ≤ 18) (hlb : B.length ≤ 18) (hsa : sa ≤ 9) (hsb : sb ≤ 9) {z : Int}
    (hz : z = sgB ba * (dv A * 10 ^ (max sa sb - sa)) + sgB bb * (dv B * 10 ^ (max sa sb - sb))) :
    ∃ bel out, Dg out ∧ out.length ≤ 1000 ∧ dv out = z.natAbs ∧ (z = 0 ∨ bel = decide (z < 0)) ∧ f62 (ba, A, (sa : Int), bb, B, (sb : Int), ()) = some (bel, out, ((max sa sb : Nat) : Int), ()) := by
  have hX0 : 0 ≤ dv A * 10 ^ (max sa sb - sa) := Int.mul_nonneg (dv_nonneg hA.nn) (Int.le_of_lt (Int.pow_pos (by omega)))
  have hY0 : 0 ≤ dv B * 10 ^ (max sa sb - sb) := Int.mul_nonneg (dv_nonneg hB.nn) (Int.le_of_lt (Int.pow_pos (by omega)))
  rw [show f62 = r62 (recN (gos := [go62]) r62 18446744073709551615) from rfl]
  rcases r62_eqn (recN (gos := [go62]) r62 18446744073709551615) hA hB ba bb (sa := sa) (sb := sb) (by omega) (by omega) (by omega) (by omega) with ⟨h1, out, g1, g2, g3, g4⟩ | ⟨h1, h2, h3⟩
  · refine ⟨ba, out, g1, g2, ?_, ?_, g4⟩
    · rw [g3, hz]
      generalize dv A * 10 ^ (max sa sb - sa) = X at *
      generalize dv B * 10 ^ (max sa sb - sb) = Y at *
      unfold sgB sgO
      cases ba <;> cases bb <;> simp at h1 ⊢ <;> omega
    · rw [hz]
      generalize dv A * 10 ^ (max sa sb - sa) = X at *
      generalize dv B * 10 ^ (max sa sb - sb) = Y at *
      unfold sgB
      cases ba <;> cases bb <;> simp at h1 ⊢ <;> omega
  · have k1 : sa ≤ max sa sb := Nat.le_max_left _ _
    have k2 : sb ≤ max sa sb := Nat.le_max_right _ _
    have k3 : max sa sb ≤ 9 := by omega
    have zg : ∀ n : Nat, Dg (List.replicate n (0 : Int)) := fun n x hx => by rw [(List.mem_replicate.1 hx).2]; omega
    rw [h3, show recN (gos := [go62]) r62 18446744073709551615 = r62 (recN (gos := [go62]) r62 18446744073709551614) from rfl]
    generalize max sa sb = S at *
    have vA : dv (List.replicate (S - sa) 0 ++ A) = dv A * 10 ^ (S - sa) := by rw [dv_append, dv_zeros, List.length_replicate, Int.zero_add, Int.mul_comm]
    have vB : dv (List.replicate (S - sb) 0 ++ B) = dv B * 10 ^ (S - sb) := by rw [dv_append, dv_zeros, List.length_replicate, Int.zero_add, Int.mul_comm]
    rw [← vA, ← vB] at h2 hz
    rw [← vA] at hX0
    rw [← vB] at hY0
    have gA := (zg (S - sa)).append hA
    have gB := (zg (S - sb)).append hB
    have lA : (List.replicate (S - sa) 0 ++ A).length ≤ 300 := by rw [List.length_append, List.length_replicate]; omega
    have lB : (List.replicate (S - sb) 0 ++ B).length ≤ 300 := by rw [List.length_append, List.length_replicate]; omega
    generalize List.replicate (S - sa) 0 ++ A = A' at gA lA h2 hz hX0 ⊢
    generalize List.replicate (S - sb) 0 ++ B = B' at gB lB h2 hz hY0 ⊢
    have hr := r62_eqn (recN (gos := [go62]) r62 18446744073709551614) gB gA bb ba (sa := S) (sb := S) lB lA (by omega) (by omega)
    rw [Nat.max_self, Nat.sub_self] at hr
    have e0 : ∀ x : Int, x * 10 ^ 0 = x := fun x => by simp
    rw [e0, e0] at hr
    rcases hr with ⟨_, out, g1, g2, g3, g4⟩ | ⟨_, h5, _⟩
    · refine ⟨bb, out, g1, g2, ?_, ?_, ?_⟩
      · rw [g3, hz]
        generalize dv A' = X at *
        generalize dv B' = Y at *
        unfold sgB sgO
        cases ba <;> cases bb <;> simp at h1 ⊢ <;> omega
      · rw [hz]
        generalize dv A' = X at *
        generalize dv B' = Y at *
        unfold sgB
        cases ba <;> cases bb <;> simp at h1 ⊢ <;> omega
      · rw [g4]; rfl
    · omega
theorem sgB_v (m : Int) : sgB (decide (m < 0)) * (m.natAbs : Int) = m := by
  unfold sgB
  by_cases h : m < 0
  · rw [if_pos (by rw [decide_eq_true_eq]; exact h)]; omega
  · rw [if_neg (by rw [decide_eq_true_eq]; exact h)]; omega
theorem f56_eqn (m s m' s' : Int) : f56 (m, s, m', s', ()) = some (add m s m' s') := by
  unfold f56 add
  dsimp only
  rw [f28_eqn, Option.bind_some]
  dsimp only
  by_cases h : Rt m s
  · rw [if_neg (by rw [decide_eq_true h]; decide), f28_eqn, Option.bind_some]
    dsimp only
    by_cases h' : Rt m' s'
    · rw [if_neg (by rw [decide_eq_true h']; decide), if_pos ⟨h, h'⟩]
      have b3 := h.2.2.1; have b4 := h.2.2.2.1
      have c3 := h'.2.2.1; have c4 := h'.2.2.2.1
      obtain ⟨A, g1, g2, g3, g4⟩ := f52_eqn (m := m) (s := s) ⟨h.1, h.2.1⟩
      obtain ⟨B, k1, k2, k3, k4⟩ := f52_eqn (m := m') (s := s') ⟨h'.1, h'.2.1⟩
      rw [g4, Option.bind_some, k4, Option.bind_some]
      dsimp only
      have es : s = (s.toNat : Int) := by omega
      have es' : s' = (s'.toNat : Int) := by omega
      obtain ⟨bel, out, o1, o2, o3, o4, o5⟩ := f62_eqn g1 k1 (decide (m < 0)) (decide (m' < 0)) (sa := s.toNat) (sb := s'.toNat) g3 k3 (by omega) (by omega) rfl
      rw [← es, ← es'] at o5
      rw [o5, Option.bind_some]
      dsimp only
      rw [f61_eqn bel o1 o2 (by omega), Option.bind_some]
      rw [g2, k2, ← Int.mul_assoc, ← Int.mul_assoc, sgB_v, sgB_v] at o3 o4
      rw [o3, Int.toNat_natCast, told_T rfl o4, sum_T m m' s.toNat s'.toNat _ (Nat.le_max_left _ _) (Nat.le_max_right _ _) (by omega)]
      rfl
    · rw [if_pos (by rw [decide_eq_false h']; decide), if_neg (fun hh => h' hh.2)]
  · rw [if_pos (by rw [decide_eq_false h]; decide), if_neg (fun hh => h hh.1)]
end Go.Ev.Box
namespace Go.Ev.Box
open Go.Ev.Dec

/-! ## Products -/
def Bd (l : List Int) (M : Int) : Prop := ∀ x ∈ l, 0 ≤ x ∧ x ≤ M
theorem Bd.getD {l : List Int} {M : Int} (h : Bd l M) (hM : 0 ≤ M) (i : Nat) : 0 ≤ l.getD i 0 ∧ l.getD i 0 ≤ M := by
  rw [List.getD_eq_getElem?_getD]
  rcases Nat.lt_or_ge i l.length with hi | hi
  · rw [List.getElem?_eq_getElem hi]; exact h _ (List.getElem_mem _)
  · rw [List.getElem?_eq_none hi]; exact ⟨Int.le_refl _, hM⟩
theorem Bd.mono {l : List Int} {M M' : Int} (h : Bd l M) (hM : M ≤ M') : Bd l M' := fun x hx => ⟨(h x hx).1, Int.le_trans (h x hx).2 hM⟩
theorem Bd.set {l : List Int} {M : Int} (h : Bd l M) {i : Nat} {v : Int} (hv : 0 ≤ v ∧ v ≤ M) : Bd (l.set i v) M := fun x hx => by
  rcases List.mem_or_eq_of_mem_set hx with h1 | h1
  · exact h x h1
  · rw [h1]; exact hv
theorem prod81 {a b : Int} (ha : 0 ≤ a ∧ a ≤ 9) (hb : 0 ≤ b ∧ b ≤ 9) : 0 ≤ a * b ∧ a * b ≤ 81 :=
  ⟨Int.mul_nonneg ha.1 hb.1, Int.le_trans (Int.mul_le_mul_of_nonneg_right ha.2 hb.1) (by omega)⟩

theorem l55_3_spec {A B : List Int} (hA : Dg A) (hB : Dg B) (hla : A.length ≤ 18) (hlb : B.length ≤ 18) (z1 z2 sa sb S : Int) (ba bb ng : Bool) {i : Nat} (hi : i < A.length) (u : Nat) (hu : u ≤ 1000) : ∀ (k j : Nat) (l : List Int), B.length < j + k → j ≤ B.length → l.length = A.length + B.length + 1 → Bd l (81 * ((u + j : Nat) : Int)) →
    ∃ l' : List Int, l'.length = A.length + B.length + 1 ∧ Bd l' (81 * ((u + B.length : Nat) : Int)) ∧ dv l' + 10 ^ i * (A.getD i 0 * dv (B.take j)) = dv l + 10 ^ i * (A.getD i 0 * dv B) ∧
    loopN g55_3 o55_3 b55_3 k ((i : Int), (j : Int), z1, z2, ba, A, sa, bb, B, sb, ng, S, l, [], ()) = some (.inl ((i : Int), z1, z2, ba, A, sa, bb, B, sb, ng, S, l', [], ())) := by
  intro k
  induction k with
  | zero => intro j l h1 h2; omega
  | succ k ih =>
    intro j l h1 h2 h3 h4
    rw [loopN_succ]
    generalize hL : loopN g55_3 o55_3 b55_3 k = L at ih ⊢
    unfold b55_3
    dsimp only
    rcases Nat.lt_or_ge j B.length with h | h
    · have e1 : IntKind.wrap .i64 ((i : Int) + (j : Int)) = ((i + j : Nat) : Int) := by rw [wrap_i64 (by omega)]; omega
      have e2 : IntKind.wrap .i64 ((j : Int) + 1) = ((j + 1 : Nat) : Int) := by rw [wrap_i64 (by omega)]; omega
      have a1 := hA.getD i
      have b1 := hB.getD j
      have p1 := prod81 a1 b1
      have l1 := h4.getD (by omega) (i + j)
      rw [if_pos (by rw [decide_eq_true_eq]; omega), e1, e2, if_pos (by omega), if_pos (by omega), if_pos (by omega), if_pos (by omega), if_pos (by omega), if_pos (by omega), if_pos (by omega), if_pos (by omega), if_pos (by rw [List.length_set]), if_pos rfl, Option.bind_some, Sum.elim_inl]
      simp only [Int.toNat_natCast, Nat.zero_add]
      have e3 : IntKind.wrap .i64 (A.getD i 0 * B.getD j 0) = A.getD i 0 * B.getD j 0 := wrap_i64 (by omega)
      have e4 : IntKind.wrap .i64 (l.getD (i + j) 0 + A.getD i 0 * B.getD j 0) = l.getD (i + j) 0 + A.getD i 0 * B.getD j 0 := wrap_i64 (by omega)
      rw [e3, e4]
      obtain ⟨l', g1, g2, g3, g4⟩ := ih (j + 1) (l.set (i + j) (l.getD (i + j) 0 + A.getD i 0 * B.getD j 0)) (by omega) (by omega) (by rw [List.length_set]; exact h3) (Bd.set (h4.mono (by omega)) (by omega))
      refine ⟨l', g1, g2, ?_, g4⟩
      rw [dv_set _ (by omega), dv_take_next, Int.pow_add] at g3
      generalize dv l' = x at g3 ⊢
      generalize dv l = y at g3 ⊢
      generalize dv B = z at g3 ⊢
      generalize dv (B.take j) = t at g3 ⊢
      generalize (10 : Int) ^ i = p at g3 ⊢
      generalize (10 : Int) ^ j = q at g3 ⊢
      generalize A.getD i 0 = a at g3 ⊢
      generalize B.getD j 0 = b at g3 ⊢
      generalize l.getD (i + j) 0 = c at g3 ⊢
      clear ih hL h1 h2 h3 h4 g4 g2 a1 b1 p1 l1 e3 e4
      grind
    · rw [if_neg (by rw [decide_eq_true_eq]; omega), if_pos rfl, if_pos rfl]
      have hj : j = B.length := by omega
      subst hj
      exact ⟨l, h3, h4, by rw [List.take_length], rfl⟩
theorem l55_1_spec {A B : List Int} (hA : Dg A) (hB : Dg B) (hla : A.length ≤ 18) (hlb : B.length ≤ 18) (z1 z2 sa sb S : Int) (ba bb ng : Bool) : ∀ (k i : Nat) (l : List Int), A.length < i + k → i ≤ A.length → l.length = A.length + B.length + 1 → Bd l (81 * ((i * B.length : Nat) : Int)) → dv l = dv (A.take i) * dv B →
    ∃ l' : List Int, l'.length = A.length + B.length + 1 ∧ Bd l' 26244 ∧ dv l' = dv A * dv B ∧
    loopN g55_1 o55_1 b55_1 k ((i : Int), z1, z2, ba, A, sa, bb, B, sb, ng, S, l, [], ()) = some (.inl (z1, z2, ng, S, l', [], ())) := by
  intro k
  induction k with
  | zero => intro i l h1 h2; omega
  | succ k ih =>
    intro i l h1 h2 h3 h4 h5
    rw [loopN_succ]
    generalize hL : loopN g55_1 o55_1 b55_1 k = L at ih ⊢
    have hu : i * B.length ≤ 324 := Nat.le_trans (Nat.mul_le_mul (show i ≤ 18 by omega) hlb) (by omega)
    unfold b55_1
    dsimp only
    rcases Nat.lt_or_ge i A.length with h | h
    · rw [if_pos (by rw [decide_eq_true_eq]; omega), if_pos rfl, if_pos rfl]
      obtain ⟨l', g1, g2, g3, g4⟩ := l55_3_spec hA hB hla hlb z1 z2 sa sb S ba bb ng h (i * B.length) (by omega) 18446744073709551616 0 l (by omega) (by omega) h3 h4
      have g4' : loopN g55_3 o55_3 b55_3 18446744073709551616 ((i : Int), 0, z1, z2, ba, A, sa, bb, B, sb, ng, S, l, [], ()) = _ := g4
      rw [show l55_3 = loopN g55_3 o55_3 b55_3 18446744073709551616 from rfl]
      generalize loopN g55_3 o55_3 b55_3 18446744073709551616 ((i : Int), 0, z1, z2, ba, A, sa, bb, B, sb, ng, S, l, [], ()) = X at g4' ⊢
      subst g4'
      rw [Option.bind_some, Sum.elim_inl]
      dsimp only
      rw [if_pos rfl, if_pos rfl, Option.bind_some, Sum.elim_inl, show IntKind.wrap .i64 ((i : Int) + 1) = ((i + 1 : Nat) : Int) by rw [wrap_i64 (by omega)]; omega]
      refine ih (i + 1) l' (by omega) (by omega) g1 (by rw [Nat.succ_mul]; exact g2) ?_
      rw [List.take_zero] at g3
      rw [dv_take_next, Int.add_mul, ← h5]
      have e : dv ([] : List Int) = 0 := rfl
      rw [e, Int.mul_zero, Int.mul_zero, Int.add_zero] at g3
      rw [g3, Int.mul_assoc]
    · rw [if_neg (by rw [decide_eq_true_eq]; omega), if_pos rfl, if_pos rfl]
      have hi : i = A.length := by omega
      subst hi
      rw [List.take_length] at h5
      exact ⟨l, h3, h4.mono (by omega), h5, rfl⟩

theorem l55_2_spec (z1 z2 S : Int) (ng : Bool) (N : Nat) (hN : 0 < N) (hN2 : N ≤ 1000) (V : Int) : ∀ (k i : Nat) (l : List Int), N < i + 1 + k → i + 1 ≤ N → l.length = N → dv l = V → (∀ j, j < i → 0 ≤ l.getD j 0 ∧ l.getD j 0 ≤ 9) → (0 ≤ l.getD i 0 ∧ l.getD i 0 ≤ 30000) → (∀ j, i < j → 0 ≤ l.getD j 0 ∧ l.getD j 0 ≤ 26244) →
    ∃ l' : List Int, l'.length = N ∧ dv l' = V ∧ (∀ j, j + 1 < N → 0 ≤ l'.getD j 0 ∧ l'.getD j 0 ≤ 9) ∧ 0 ≤ l'.getD (N - 1) 0 ∧
    loopN g55_2 o55_2 b55_2 k ((i : Int), z1, z2, ng, S, l, [], ()) = some (.inl (z1, z2, ng, S, l', [], ())) := by
  intro k
  induction k with
  | zero => intro i l h1 h2; omega
  | succ k ih =>
    intro i l h1 h2 h3 h4 h5 h6 h7
    rw [loopN_succ]
    generalize hL : loopN g55_2 o55_2 b55_2 k = L at ih ⊢
    have e1 : IntKind.wrap .i64 ((i : Int) + 1) = ((i + 1 : Nat) : Int) := by rw [wrap_i64 (by omega)]; omega
    unfold b55_2
    dsimp only
    rw [e1]
    rcases Nat.lt_or_ge (i + 1) N with h | h
    · have h8 := h7 (i + 1) (by omega)
      have hd : Int.tdiv (l.getD i 0) 10 = l.getD i 0 / 10 := Int.tdiv_eq_ediv_of_nonneg h6.1
      have hm : Int.tmod (l.getD i 0) 10 = l.getD i 0 % 10 := Int.tmod_eq_emod_of_nonneg h6.1
      have e2 : IntKind.wrap .i64 (l.getD i 0 / 10) = l.getD i 0 / 10 := wrap_i64 (by omega)
      have e3 : IntKind.wrap .i64 (l.getD (i + 1) 0 + l.getD i 0 / 10) = l.getD (i + 1) 0 + l.getD i 0 / 10 := wrap_i64 (by omega)
      have eg : ∀ v : Int, (l.set (i + 1) v).getD i 0 = l.getD i 0 := fun v => by
        simp only [List.getD_eq_getElem?_getD]
        rw [List.getElem?_set_ne (by omega)]
      simp only [Int.toNat_natCast, Nat.zero_add, eg]
      rw [hd, hm, e2, e3]
      rw [if_pos (by rw [decide_eq_true_eq]; omega), if_pos (by omega), if_pos (by omega), if_pos (by omega), if_pos (by omega), if_pos (by omega), if_pos (by omega), if_pos (by omega), if_pos (by omega), if_pos (by omega), if_pos (by omega), if_pos (by rw [List.length_set, List.length_set]), if_pos trivial, Option.bind_some, Sum.elim_inl]
      have gset : ∀ j, ((l.set (i + 1) (l.getD (i + 1) 0 + l.getD i 0 / 10)).set i (l.getD i 0 % 10)).getD j 0 = if j = i then l.getD i 0 % 10 else if j = i + 1 then l.getD (i + 1) 0 + l.getD i 0 / 10 else l.getD j 0 := fun j => by
        simp only [List.getD_eq_getElem?_getD]
        by_cases c1 : j = i
        · rw [c1, if_pos rfl, List.getElem?_set_self (by rw [List.length_set]; omega)]; rfl
        · rw [if_neg c1, List.getElem?_set_ne (by omega)]
          by_cases c2 : j = i + 1
          · rw [c2, if_pos rfl, List.getElem?_set_self (by omega)]; rfl
          · rw [if_neg c2, List.getElem?_set_ne (by omega)]
      refine ih (i + 1) _ (by omega) (by omega) (by rw [List.length_set, List.length_set]; exact h3) ?_ (fun j hj => ?_) ?_ (fun j hj => ?_)
      · rw [dv_set _ (by rw [List.length_set]; omega), dv_set _ (by omega), eg, h4, Int.pow_succ]
        generalize (10 : Int) ^ i = p
        have : l.getD i 0 = 10 * (l.getD i 0 / 10) + l.getD i 0 % 10 := by omega
        generalize l.getD i 0 / 10 = q at this ⊢
        generalize l.getD i 0 % 10 = r at this ⊢
        rw [this]
        grind
      · rw [gset]
        by_cases c1 : j = i
        · rw [if_pos c1]; omega
        · rw [if_neg c1, if_neg (by omega)]; exact h5 j (by omega)
      · rw [gset, if_neg (by omega), if_pos rfl]; omega
      · rw [gset, if_neg (by omega), if_neg (by omega)]; exact h7 j (by omega)
    · rw [if_neg (by rw [decide_eq_true_eq]; omega), if_pos rfl, if_pos rfl]
      refine ⟨l, h3, h4, fun j hj => h5 j (by omega), ?_, rfl⟩
      rw [show N - 1 = i by omega]; exact h6.1
theorem f55_eqn (m s m' s' : Int) : f55 (m, s, m', s', ()) = some (mul m s m' s') := by
  unfold f55 mul
  dsimp only
  rw [f28_eqn, Option.bind_some]
  dsimp only
  by_cases h : Rt m s
  · rw [if_neg (by rw [decide_eq_true h]; decide), f28_eqn, Option.bind_some]
    dsimp only
    by_cases h' : Rt m' s'
    · rw [if_neg (by rw [decide_eq_true h']; decide), if_pos ⟨h, h'⟩]
      have b3 := h.2.2.1; have b4 := h.2.2.2.1
      have c3 := h'.2.2.1; have c4 := h'.2.2.2.1
      obtain ⟨A, g1, g2, g3, g4⟩ := f52_eqn (m := m) (s := s) ⟨h.1, h.2.1⟩
      obtain ⟨B, k1, k2, k3, k4⟩ := f52_eqn (m := m') (s := s') ⟨h'.1, h'.2.1⟩
      rw [g4, Option.bind_some, k4, Option.bind_some]
      dsimp only
      have e1 : IntKind.wrap .i64 (((A.length : Nat) : Int) + ((B.length : Nat) : Int)) = ((A.length + B.length : Nat) : Int) := by rw [wrap_i64 (by omega)]; omega
      have e2 : IntKind.wrap .i64 (((A.length + B.length : Nat) : Int) + 1) = ((A.length + B.length + 1 : Nat) : Int) := by rw [wrap_i64 (by omega)]; omega
      have es : IntKind.wrap .i64 (s + s') = ((s.toNat + s'.toNat : Nat) : Int) := by rw [wrap_i64 (by omega)]; omega
      simp only [e1, e2, es, Int.toNat_natCast]
      rw [if_pos (by omega), if_pos (by omega), if_pos (by omega), if_pos (by rw [List.length_replicate])]
      have zb : Bd (List.replicate (A.length + B.length + 1) (0 : Int)) (81 * ((0 * B.length : Nat) : Int)) := fun x hx => by rw [(List.mem_replicate.1 hx).2]; omega
      obtain ⟨l, l1, l2, l3, l4⟩ := l55_1_spec g1 k1 g3 k3 0 0 s s' ((s.toNat + s'.toNat : Nat) : Int) (decide (m < 0)) (decide (m' < 0)) (!(decide (m < 0) == decide (m' < 0))) 18446744073709551616 0 (List.replicate (A.length + B.length + 1) 0) (by omega) (by omega) (by rw [List.length_replicate]) zb (by rw [dv_zeros]; simp [dv])
      have l4' : loopN g55_1 o55_1 b55_1 18446744073709551616 (0, 0, 0, decide (m < 0), A, s, decide (m' < 0), B, s', (!(decide (m < 0) == decide (m' < 0))), ((s.toNat + s'.toNat : Nat) : Int), List.replicate (A.length + B.length + 1) 0, [], ()) = _ := l4
      rw [show l55_1 = loopN g55_1 o55_1 b55_1 18446744073709551616 from rfl]
      generalize loopN g55_1 o55_1 b55_1 18446744073709551616 (0, 0, 0, decide (m < 0), A, s, decide (m' < 0), B, s', (!(decide (m < 0) == decide (m' < 0))), ((s.toNat + s'.toNat : Nat) : Int), List.replicate (A.length + B.length + 1) 0, [], ()) = X at l4' ⊢
      subst l4'
      rw [Option.bind_some, Sum.elim_inl]
      dsimp only
      rw [if_pos trivial, if_pos trivial]
      obtain ⟨r, r1, r2, r3, r4, r5⟩ := l55_2_spec 0 0 ((s.toNat + s'.toNat : Nat) : Int) (!(decide (m < 0) == decide (m' < 0))) (A.length + B.length + 1) (by omega) (by omega) (dv A * dv B) 18446744073709551616 0 l (by omega) (by omega) l1 l3 (fun j hj => by omega)
        (by have := l2.getD (by omega) 0; omega) (fun j hj => l2.getD (by omega) j)
      have r5' : loopN g55_2 o55_2 b55_2 18446744073709551616 (0, 0, 0, (!(decide (m < 0) == decide (m' < 0))), ((s.toNat + s'.toNat : Nat) : Int), l, [], ()) = _ := r5
      rw [show l55_2 = loopN g55_2 o55_2 b55_2 18446744073709551616 from rfl]
      generalize loopN g55_2 o55_2 b55_2 18446744073709551616 (0, 0, 0, (!(decide (m < 0) == decide (m' < 0))), ((s.toNat + s'.toNat : Nat) : Int), l, [], ()) = Y at r5' ⊢
      subst r5'
      rw [Option.bind_some, Sum.elim_inl]
      dsimp only
      rw [List.drop_zero, List.take_length]
      have hprod : dv A * dv B = ((m * m').natAbs : Int) := by rw [g2, k2, Int.natAbs_mul]; simp
      have hV0 : 0 ≤ dv A * dv B := by rw [hprod]; omega
      have hVlt : dv A * dv B < 10 ^ (A.length + B.length) := by
        rw [Int.pow_add]
        exact Int.lt_of_le_of_lt (Int.mul_le_mul_of_nonneg_left (Int.le_of_lt (dv_lt k1)) (dv_nonneg g1.nn)) (Int.mul_lt_mul_of_pos_right (dv_lt g1) (Int.pow_pos (by omega)))
      have hDtake : Dg (r.take (A.length + B.length)) := fun x hx => by
        obtain ⟨j, hj, rfl⟩ := List.mem_iff_getElem.1 hx
        rw [List.length_take] at hj
        have := r3 j (by omega)
        rw [List.getD_eq_getElem?_getD, List.getElem?_eq_getElem (by omega)] at this
        rw [List.getElem_take]; exact this
      have hlast : r.getD (A.length + B.length) 0 = 0 := by
        have e5 := dv_split r (A.length + B.length) (by omega)
        have e6 : dv (r.drop (A.length + B.length)) = r.getD (A.length + B.length) 0 := by
          rw [dv_drop (by omega), List.drop_of_length_le (by omega)]; simp [dv]
        rw [e6, r2] at e5
        have h0 := dv_nonneg hDtake.nn
        rw [show A.length + B.length + 1 - 1 = A.length + B.length from rfl] at r4
        have hp : (0 : Int) < 10 ^ (A.length + B.length) := Int.pow_pos (by omega)
        rcases Int.lt_or_le 0 (r.getD (A.length + B.length) 0) with h1 | h1
        · exfalso
          have : (10 : Int) ^ (A.length + B.length) * 1 ≤ 10 ^ (A.length + B.length) * r.getD (A.length + B.length) 0 := Int.mul_le_mul_of_nonneg_left (by omega) (Int.le_of_lt hp)
          omega
        · omega
      have hDr : Dg r := fun x hx => by
        obtain ⟨j, hj, rfl⟩ := List.mem_iff_getElem.1 hx
        by_cases c : j + 1 < A.length + B.length + 1
        · have := r3 j c
          rw [List.getD_eq_getElem?_getD, List.getElem?_eq_getElem hj] at this
          exact this
        · have hj2 : j = A.length + B.length := by omega
          subst hj2
          rw [List.getD_eq_getElem?_getD, List.getElem?_eq_getElem hj] at hlast
          have : r[A.length + B.length] = 0 := hlast
          rw [this]; omega
      rw [f61_eqn _ hDr (by omega) (by omega), Option.bind_some, r2, hprod, Int.toNat_natCast]
      rw [told_T (z := m * m') rfl ?_]
      · rw [mul_T m m' s.toNat s'.toNat (by omega) (by omega)]
        rfl
      · rcases Int.lt_trichotomy m 0 with hm | hm | hm
        · rcases Int.lt_trichotomy m' 0 with hn | hn | hn
          · refine .inr ?_
            have : ¬ m * m' < 0 := Int.not_lt.2 (Int.le_of_lt (Int.mul_pos_of_neg_of_neg hm hn))
            simp [hm, hn, this]
          · exact .inl (by rw [hn, Int.mul_zero])
          · refine .inr ?_
            have : m * m' < 0 := Int.mul_neg_of_neg_of_pos hm hn
            have hn' : ¬ m' < 0 := by omega
            simp [hm, hn', this]
        · exact .inl (by rw [hm, Int.zero_mul])
        · rcases Int.lt_trichotomy m' 0 with hn | hn | hn
          · refine .inr ?_
            have : m * m' < 0 := Int.mul_neg_of_pos_of_neg hm hn
            have hm' : ¬ m < 0 := by omega
            simp [hm', hn, this]
          · exact .inl (by rw [hn, Int.mul_zero])
          · refine .inr ?_
            have : ¬ m * m' < 0 := Int.not_lt.2 (Int.le_of_lt (Int.mul_pos hm hn))
            have hm' : ¬ m < 0 := by omega
            have hn' : ¬ m' < 0 := by omega
            simp [hm', hn', this]
    · rw [if_pos (by rw [decide_eq_false h']; decide), if_neg (fun hh => h' hh.2)]
  · rw [if_pos (by rw [decide_eq_false h]; decide), if_neg (fun hh => h hh.1)]
end Go.Ev.Box
namespace Go.Ev.Box
open Go.Ev.Dec

theorem f34_eqn (m : Mt) : f34 (m.A.1, m.A.2, m.B.1, m.B.2, m.C.1, m.C.2, m.D.1, m.D.2, m.E.1, m.E.2, m.F.1, m.F.2, ()) = some (decide m.ok, ()) := by
  unfold f34
  dsimp only
  have key : ∀ (d : Int × Int) (K : go28.D → Option go34.D), Option.bind (f28 (d.1, d.2, ())) K = K (decide (RtD d), ()) := fun d K => by rw [f28_eqn]; rfl
  simp only [key]
  by_cases h1 : RtD m.A
  · rw [if_pos (decide_eq_true h1)]
    by_cases h2 : RtD m.B
    · rw [if_pos (decide_eq_true h2)]
      by_cases h3 : RtD m.C
      · rw [if_pos (decide_eq_true h3)]
        by_cases h4 : RtD m.D
        · rw [if_pos (decide_eq_true h4)]
          by_cases h5 : RtD m.E
          · rw [if_pos (decide_eq_true h5)]
            congr 2
            rw [decide_eq_decide]
            exact ⟨fun h => ⟨h1, h2, h3, h4, h5, h⟩, fun h => h.2.2.2.2.2⟩
          · rw [if_neg (by rw [decide_eq_true_eq]; exact h5), decide_eq_false (fun h : m.ok => h5 h.2.2.2.2.1)]
        · rw [if_neg (by rw [decide_eq_true_eq]; exact h4), decide_eq_false (fun h : m.ok => h4 h.2.2.2.1)]
      · rw [if_neg (by rw [decide_eq_true_eq]; exact h3), decide_eq_false (fun h : m.ok => h3 h.2.2.1)]
    · rw [if_neg (by rw [decide_eq_true_eq]; exact h2), decide_eq_false (fun h : m.ok => h2 h.2.1)]
  · rw [if_neg (by rw [decide_eq_true_eq]; exact h1), decide_eq_false (fun h : m.ok => h1 h.1)]

/-- Went all well? -/
def tbO (a b c d e : Int × Int) : Bool :=
  let x := mul a.1 a.2 b.1 b.2
  let y := mul c.1 c.2 d.1 d.2
  let z := add x.1 x.2.1 y.1 y.2.1
  let u := add z.1 z.2.1 e.1 e.2
  x.2.2.1 == 0 && (y.2.2.1 == 0 && (z.2.2.1 == 0 && u.2.2.1 == 0))
theorem f43_eqn (a b c d e : Int × Int) : f43 (a.1, a.2, b.1, b.2, c.1, c.2, d.1, d.2, e.1, e.2, ()) = some ((tied a b c d e 0).1.1, (tied a b c d e 0).1.2, tbO a b c d e, ()) := by
  unfold f43 tbO tied
  dsimp only
  rw [f55_eqn, Option.bind_some, f55_eqn, Option.bind_some, f56_eqn, Option.bind_some, f56_eqn, Option.bind_some]
  generalize mul a.1 a.2 b.1 b.2 = x
  generalize mul c.1 c.2 d.1 d.2 = y
  generalize add x.1 x.2.1 y.1 y.2.1 = z
  generalize add z.1 z.2.1 e.1 e.2 = u
  cases h1 : (x.2.2.1 == 0)
  · rw [if_neg (by decide)]; rfl
  · rw [if_pos rfl]
    cases h2 : (y.2.2.1 == 0)
    · rw [if_neg (by decide)]; rfl
    · rw [if_pos rfl]
      cases h3 : (z.2.2.1 == 0)
      · rw [if_neg (by decide)]; rfl
      · rw [if_pos rfl]; rfl
theorem tied_1 (a b c d e : Int × Int) (w w' : Int) : (tied a b c d e w).1 = (tied a b c d e w').1 := rfl
theorem tied_w {a b c d e : Int × Int} (ha : RtD a) (hb : RtD b) (hc : RtD c) (hd : RtD d) (he : RtD e) (w : Int) : (tied a b c d e w).2 = keep w (if tbO a b c d e = true then 0 else 5) := by
  have ite_b : ∀ b : Bool, (if b = true then (0 : Int) else 5) = cond b 0 5 := fun b => by cases b <;> rfl
  rw [ite_b]
  unfold tbO tied
  dsimp only
  have m1 : (mul a.1 a.2 b.1 b.2).2.2.1 = 0 ∨ (mul a.1 a.2 b.1 b.2).2.2.1 = 5 := by
    rcases mul_cases ha hb with h | h
    · exact .inr (by rw [h])
    · exact .inl h.1
  have r1 : RtD ((mul a.1 a.2 b.1 b.2).1, (mul a.1 a.2 b.1 b.2).2.1) := by
    rcases mul_cases ha hb with h | h
    · rw [h]; exact RtD_zero
    · exact h.2.1
  have m2 : (mul c.1 c.2 d.1 d.2).2.2.1 = 0 ∨ (mul c.1 c.2 d.1 d.2).2.2.1 = 5 := by
    rcases mul_cases hc hd with h | h
    · exact .inr (by rw [h])
    · exact .inl h.1
  have r2 : RtD ((mul c.1 c.2 d.1 d.2).1, (mul c.1 c.2 d.1 d.2).2.1) := by
    rcases mul_cases hc hd with h | h
    · rw [h]; exact RtD_zero
    · exact h.2.1
  have m3 : (add (mul a.1 a.2 b.1 b.2).1 (mul a.1 a.2 b.1 b.2).2.1 (mul c.1 c.2 d.1 d.2).1 (mul c.1 c.2 d.1 d.2).2.1).2.2.1 = 0 ∨ (add (mul a.1 a.2 b.1 b.2).1 (mul a.1 a.2 b.1 b.2).2.1 (mul c.1 c.2 d.1 d.2).1 (mul c.1 c.2 d.1 d.2).2.1).2.2.1 = 5 := by
    rcases add_cases r1 r2 with h | h
    · exact .inr (by rw [h])
    · exact .inl h.1
  have r3 : RtD ((add (mul a.1 a.2 b.1 b.2).1 (mul a.1 a.2 b.1 b.2).2.1 (mul c.1 c.2 d.1 d.2).1 (mul c.1 c.2 d.1 d.2).2.1).1, (add (mul a.1 a.2 b.1 b.2).1 (mul a.1 a.2 b.1 b.2).2.1 (mul c.1 c.2 d.1 d.2).1 (mul c.1 c.2 d.1 d.2).2.1).2.1) := by
    rcases add_cases r1 r2 with h | h
    · rw [show add (mul a.1 a.2 b.1 b.2).1 (mul a.1 a.2 b.1 b.2).2.1 (mul c.1 c.2 d.1 d.2).1 (mul c.1 c.2 d.1 d.2).2.1 = (0, 0, 5, ()) from h]; exact RtD_zero
    · exact h.2.1
  have m4 : (add (add (mul a.1 a.2 b.1 b.2).1 (mul a.1 a.2 b.1 b.2).2.1 (mul c.1 c.2 d.1 d.2).1 (mul c.1 c.2 d.1 d.2).2.1).1 (add (mul a.1 a.2 b.1 b.2).1 (mul a.1 a.2 b.1 b.2).2.1 (mul c.1 c.2 d.1 d.2).1 (mul c.1 c.2 d.1 d.2).2.1).2.1 e.1 e.2).2.2.1 = 0 ∨ (add (add (mul a.1 a.2 b.1 b.2).1 (mul a.1 a.2 b.1 b.2).2.1 (mul c.1 c.2 d.1 d.2).1 (mul c.1 c.2 d.1 d.2).2.1).1 (add (mul a.1 a.2 b.1 b.2).1 (mul a.1 a.2 b.1 b.2).2.1 (mul c.1 c.2 d.1 d.2).1 (mul c.1 c.2 d.1 d.2).2.1).2.1 e.1 e.2).2.2.1 = 5 := by
    rcases add_cases r3 he with h | h
    · exact .inr (by rw [show add (add (mul a.1 a.2 b.1 b.2).1 (mul a.1 a.2 b.1 b.2).2.1 (mul c.1 c.2 d.1 d.2).1 (mul c.1 c.2 d.1 d.2).2.1).1 (add (mul a.1 a.2 b.1 b.2).1 (mul a.1 a.2 b.1 b.2).2.1 (mul c.1 c.2 d.1 d.2).1 (mul c.1 c.2 d.1 d.2).2.1).2.1 e.1 e.2 = (0, 0, 5, ()) from h])
    · exact .inl h.1
  have k5 : ∀ t : Int, keep (keep w 5) t = keep w 5 := fun t => by
    unfold keep
    by_cases hw : w = 0
    · rw [if_pos hw, if_neg (by decide)]
    · rw [if_neg hw, if_neg hw]
  rcases m1 with h | h <;> rcases m2 with h' | h' <;> rcases m3 with h'' | h'' <;> rcases m4 with h3 | h3 <;> rw [h, h', h'', h3] <;> simp [keep_zero, k5]

theorem f35_eqn (m : Mt) (p q : Int × Int) : f35 (m.A.1, m.A.2, m.B.1, m.B.2, m.C.1, m.C.2, m.D.1, m.D.2, m.E.1, m.E.2, m.F.1, m.F.2, p.1, p.2, q.1, q.2, ()) =
    some ((mapM m p q).1.1, (mapM m p q).1.2, (mapM m p q).2.1.1, (mapM m p q).2.1.2, (mapM m p q).2.2, ()) := by
  unfold f35 mapM
  dsimp only
  rw [f34_eqn, Option.bind_some]
  dsimp only
  by_cases h : m.ok
  · rw [if_neg (by rw [decide_eq_true h]; decide), f28_eqn, Option.bind_some]
    dsimp only
    by_cases hp : Rt p.1 p.2
    · rw [if_neg (by rw [decide_eq_true hp]; decide), f28_eqn, Option.bind_some]
      dsimp only
      by_cases hq : Rt q.1 q.2
      · rw [if_neg (by rw [decide_eq_true hq]; decide), if_pos (show m.ok ∧ RtD p ∧ RtD q from ⟨h, hp, hq⟩)]
        obtain ⟨oA, oB, oC, oD, oE, oF⟩ := h
        rw [tied_w oB hp oD hq oF, tied_w oA hp oC hq oE, tied_1 m.B p m.D q m.F _ 0, f43_eqn, Option.bind_some]
        dsimp only
        rw [f43_eqn, Option.bind_some]
        dsimp only
        cases h1 : tbO m.A p m.C q m.E
        · rw [if_pos (by decide)]
          cases h2 : tbO m.B p m.D q m.F <;> rfl
        · rw [if_neg (by decide)]
          cases h2 : tbO m.B p m.D q m.F
          · rw [if_pos (by decide)]; rfl
          · rw [if_neg (by decide)]; rfl
      · rw [if_pos (by rw [decide_eq_false hq]; decide), if_neg (fun hh : m.ok ∧ RtD p ∧ RtD q => hq hh.2.2)]
    · rw [if_pos (by rw [decide_eq_false hp]; decide), if_neg (fun hh : m.ok ∧ RtD p ∧ RtD q => hp hh.2.1)]
  · rw [if_pos (by rw [decide_eq_false h]; decide), if_neg (fun hh : m.ok ∧ RtD p ∧ RtD q => h hh.1)]
end Go.Ev.Box
