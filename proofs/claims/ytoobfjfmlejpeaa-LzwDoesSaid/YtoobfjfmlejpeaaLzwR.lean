/- Part of a proof about the given program: LzwR. -/
import Derived.Test.YtoobfjfmlejpeaaLzwW
import Derived.Test.YtoobfjfmlejpeaaLzwAwake
namespace Go.Ev.Lzw

/-! ## The reader -/
structure Rd (rb : List Int) (w m : Nat) (R c : Nat) : Prop where
  hw : w < 2 ^ m
  hb : IsB rb
  cnt : c = m + 8 * rb.length
  num : R = w * 2 ^ (8 * rb.length) + be rb

theorem Rd.lt {rb : List Int} {w m R c : Nat} (h : Rd rb w m R c) : R < 2 ^ c := by
  have h1 := be_lt h.hb
  rw [pow256] at h1
  rw [h.num, h.cnt, Nat.pow_add]
  have h2 : (w + 1) * 2 ^ (8 * rb.length) ≤ 2 ^ m * 2 ^ (8 * rb.length) := Nat.mul_le_mul h.hw (Nat.le_refl _)
  rw [Nat.add_mul] at h2
  omega

theorem l20_spec (n : Nat) (hn : n ≤ 12) : ∀ (k : Nat) (rb : List Int) (w m R c : Nat), Rd rb w m R c → m < n + 8 → rb.length < k → rb.length ≤ 100000000 →
    (n ≤ c ∧ ∃ (rb' : List Int) (w' m' : Nat), loopN g20_1 o20_1 b20_1 k ((n : Int), rb, (w : Int), (m : Int), ()) = some (.inl ((n : Int), rb', (w' : Int), (m' : Int), ())) ∧ Rd rb' w' m' R c ∧ n ≤ m' ∧ m' < n + 8) ∨
    (c < n ∧ ∃ (rb' : List Int) (w' m' : Int), loopN g20_1 o20_1 b20_1 k ((n : Int), rb, (w : Int), (m : Int), ()) = some (.inr (.inl (0, false, rb', w', m', ())))) := by
  intro k
  induction k with
  | zero => intro rb w m R c _ _ h; omega
  | succ k ih =>
    intro rb w m R c h hm hk hl
    rw [loopN_succ]
    generalize hL : loopN g20_1 o20_1 b20_1 k = L at ih ⊢
    unfold b20_1
    simp only []
    rcases Nat.lt_or_ge m n with hmn | hmn
    · rw [if_pos (by simp; omega)]
      cases rb with
      | nil =>
        rw [if_pos (by simp)]
        refine .inr ⟨by have := h.cnt; simp at this; omega, [], (w : Int), (m : Int), rfl⟩
      | cons x t =>
        have hx := h.hb x (List.mem_cons_self ..)
        have ht : IsB t := fun y hy => h.hb y (List.mem_cons_of_mem _ hy)
        have hpm : (2 : Nat) ^ m ≤ 4096 := by
          have : (2 : Nat) ^ m ≤ 2 ^ 12 := Nat.pow_le_pow_right (by omega) (by omega)
          simpa using this
        have hw := h.hw
        obtain ⟨xn, hxn⟩ : ∃ xn : Nat, x = (xn : Int) := ⟨x.toNat, by omega⟩
        subst hxn
        rw [if_neg (by simp; omega), if_pos (by simp <;> omega), if_pos (by simp <;> omega)]
        have e1 : IntKind.wrap IntKind.i64 ((w : Int) * 256) = ((w * 256 : Nat) : Int) := by rw [wrap_i64 (by omega)]; omega
        have e2 : IntKind.wrap IntKind.i64 (List.getD ((xn : Int) :: t) 0 0) = (xn : Int) := by rw [List.getD_cons_zero, wrap_i64 (by omega)]
        have hor : (w * 256 ||| xn) = w * 256 + xn := shl_or (n := 8) (by have : (2:Nat)^8 = 256 := rfl; omega)
        rw [e1, e2, or64 (by omega) (by omega), hor, wrap_i64 (n := ((w * 256 + xn : Nat) : Int)) (by omega), wrap_i64 (by omega), show ((m : Int) + 8) = ((m + 8 : Nat) : Int) by omega]
        simp only [Option.bind_some, Sum.elim_inl, List.drop_succ_cons, List.drop_zero]
        refine ih t (w * 256 + xn) (m + 8) R c ⟨?_, ht, ?_, ?_⟩ (by omega) (by simp at hk; omega) (by simp at hl; omega)
        · rw [Nat.pow_add]
          have : (2 : Nat) ^ 8 = 256 := rfl
          omega
        · have := h.cnt; simp at this; omega
        · rw [h.num]
          simp only [List.length_cons, be, Int.toNat_natCast]
          rw [show 8 * (t.length + 1) = 8 + 8 * t.length by omega, Nat.pow_add, ← Nat.mul_assoc, show (2 : Nat) ^ 8 = 256 from rfl, Nat.add_mul, pow256]
          omega
    · rw [if_neg (by simp; omega)]
      refine .inl ⟨by have := h.cnt; omega, rb, w, m, rfl, h, hmn, hm⟩

theorem next_ok {n w m R c : Nat} {rb : List Int} (h : Rd rb w m R c) (hn : n ≤ 12) (hm : m < 8) (hl : rb.length ≤ 100000000) (hc : n ≤ c) :
    ∃ (rb' : List Int) (w' m' : Nat), f20 ((n : Int), rb, (w : Int), (m : Int), ()) = some (((R / 2 ^ (c - n) : Nat) : Int), true, rb', (w' : Int), (m' : Int), ()) ∧ Rd rb' w' m' (R % 2 ^ (c - n)) (c - n) ∧ m' < 8 ∧ rb'.length ≤ rb.length := by
  rcases l20_spec n hn 18446744073709551616 rb w m R c h (by omega) (by omega) hl with ⟨_, rb', w', m', h1, h2, h3, h4⟩ | ⟨h1, _⟩
  · have hcnt := h2.cnt
    have hcnt0 := h.cnt
    have hpm : (2 : Nat) ^ m' ≤ 1048576 := by
      have : (2 : Nat) ^ m' ≤ 2 ^ 20 := Nat.pow_le_pow_right (by omega) (by omega)
      simpa using this
    have hw' := h2.hw
    have hbe := be_lt h2.hb
    rw [pow256] at hbe
    have hpp : (2 : Nat) ^ (c - n) = 2 ^ (m' - n) * 2 ^ (8 * rb'.length) := by rw [← Nat.pow_add]; congr 1; omega
    have hq : R / 2 ^ (c - n) = w' / 2 ^ (m' - n) := by
      rw [hpp, h2.num, Nat.mul_comm (2 ^ (m' - n)), ← Nat.div_div_eq_div_mul, Nat.add_comm, Nat.add_mul_div_right _ _ (Nat.two_pow_pos _), Nat.div_eq_of_lt hbe, Nat.zero_add]
    have hr : R % 2 ^ (c - n) = (w' % 2 ^ (m' - n)) * 2 ^ (8 * rb'.length) + be rb' := by
      rw [hpp, h2.num, Nat.mul_comm (2 ^ (m' - n)), Nat.mod_mul]
      rw [Nat.add_comm (w' * _), Nat.add_mul_mod_self_right, Nat.mod_eq_of_lt hbe, Nat.add_mul_div_right _ _ (Nat.two_pow_pos _), Nat.div_eq_of_lt hbe, Nat.zero_add, Nat.mul_comm]
      omega
    refine ⟨rb', w' % 2 ^ (m' - n), m' - n, ?_, ⟨Nat.mod_lt _ (Nat.two_pow_pos _), h2.hb, by omega, hr⟩, by omega, by omega⟩
    unfold f20
    simp only []
    rw [show l20_1 = loopN g20_1 o20_1 b20_1 18446744073709551616 from rfl, h1]
    simp only [Option.bind_some, Sum.elim_inl]
    rw [wrap_i64 (n := (m' : Int) - n) (by omega), show ((m' : Int) - n) = ((m' - n : Nat) : Int) by omega, if_neg (by omega), if_neg (by omega), min64 (by omega), fdivp, mask64 (by omega) (by omega), hq]
    have hlt := Nat.mod_lt w' (Nat.two_pow_pos (m' - n))
    have hp8 : (2 : Nat) ^ (m' - n) ≤ 128 := by
      have : (2 : Nat) ^ (m' - n) ≤ 2 ^ 7 := Nat.pow_le_pow_right (by omega) (by omega)
      simpa using this
    rw [wrap_i64 (by omega)]
  · omega

theorem next_no {n w m R c : Nat} {rb : List Int} (h : Rd rb w m R c) (hn : n ≤ 12) (hm : m < 8) (hl : rb.length ≤ 100000000) (hc : c < n) :
    ∃ (rb' : List Int) (w' m' : Int), f20 ((n : Int), rb, (w : Int), (m : Int), ()) = some (0, false, rb', w', m', ()) := by
  rcases l20_spec n hn 18446744073709551616 rb w m R c h (by omega) (by omega) hl with ⟨h1, _⟩ | ⟨_, rb', w', m', h1⟩
  · omega
  · refine ⟨rb', w', m', ?_⟩
    unfold f20
    simp only []
    rw [show l20_1 = loopN g20_1 o20_1 b20_1 18446744073709551616 from rfl, h1]
    rfl

/-! ## What is told by numbers -/
def rowOf (v : Nat) (ahead : List Int) (T : List (List Int)) : Option (List Int) :=
  if v < 256 then some [(v : Int)] else if v - 258 < T.length then some (T.getD (v - 258) []) else if v - 258 = T.length ∧ ahead ≠ [] then some (ahead ++ ahead.take 1) else none
def grown (ahead row : List Int) (T : List (List Int)) : List (List Int) := if ahead ≠ [] ∧ T.length < 3838 then T ++ [ahead ++ row.take 1] else T
def dec (most : Nat) : Nat → Nat → Nat → List Int → List (List Int) → List Int → Int × List Int
  | 0, _, _, _, _, _ => (6, [])
  | k + 1, R, c, ahead, T, out =>
    if c < sz T.length then (6, []) else
    if R / 2 ^ (c - sz T.length) = 256 then dec most k (R % 2 ^ (c - sz T.length)) (c - sz T.length) [] [] out else
    if R / 2 ^ (c - sz T.length) = 257 then (0, out) else
    match rowOf (R / 2 ^ (c - sz T.length)) ahead T with
    | none => (4, [])
    | some row => if most < out.length + row.length then (2, []) else dec most k (R % 2 ^ (c - sz T.length)) (c - sz T.length) row (grown ahead row T) (out ++ row)

theorem take_one {row : List Int} (h : row ≠ []) : row.take 1 = [row.getD 0 0] := by
  cases row with
  | nil => exact absurd rfl h
  | cons x t => rfl

theorem b10_2_eqn (most : Int) (v : Nat) (hv : v < 4096) (ahead : List Int) (T : List (List Int)) (rb out : List Int) (w m : Int) (ha : ahead.length ≤ 2097152) :
    b10_2 (most, ahead, (v : Int), rb, w, m, out, T, ()) =
      if v = 256 then some (.inl (most, [], rb, w, m, out, [], ())) else if v = 257 then some (.inr (.inl (0, out, ()))) else
        match rowOf v ahead T with | none => some (.inr (.inl (4, [], ()))) | some row => some (.inr (.inr (.inl (most, ahead, row, rb, w, m, out, T, ())))) := by
  unfold b10_2 rowOf
  simp only [if_true, List.drop_zero, List.take_length, one_of, List.length_cons, List.length_nil, Int.toNat_natCast, Nat.sub_zero, Nat.zero_add]
  by_cases h1 : v = 256
  · rw [if_pos (by simp; omega), if_pos h1]
  · rw [if_neg (by simp; omega), if_neg h1]
    by_cases h2 : v = 257
    · rw [if_pos (by simp; omega), if_pos h2]
    · rw [if_neg (by simp; omega), if_neg h2]
      by_cases h3 : v < 256
      · rw [if_pos (by simp; omega), if_pos h3, wrap_u8]
        simp only []
        rw [show ((v : Int) % 256) = (v : Int) by omega]
      · rw [if_neg (by simp; omega), if_neg h3, wrap_i64 (by omega), show ((v : Int) - 258) = ((v - 258 : Nat) : Int) by omega]
        simp only [Int.toNat_natCast]
        by_cases h4 : v - 258 < T.length
        · rw [if_pos (by simp; omega), if_pos h4, if_pos (by omega), if_pos (by omega)]
        · rw [if_neg (by simp; omega), if_neg h4]
          by_cases h5 : v - 258 = T.length
          · rw [if_pos (by simp; omega)]
            by_cases h6 : ahead = []
            · subst h6
              rw [if_neg (by simp), if_neg (by simp)]
            · have hp : 0 < ahead.length := List.length_pos_iff.2 h6
              rw [if_pos (by simp; omega), if_pos (by omega), if_pos (by omega), if_pos (by omega), if_pos (by omega), if_pos (by omega), if_pos (show v - 258 = T.length ∧ ahead ≠ [] from ⟨h5, h6⟩), take_one h6]
          · rw [if_neg (by simp; omega), if_neg (fun h => h5 h.1)]

theorem rowOf_ok {v : Nat} {ahead : List Int} {T : List (List Int)} {row : List Int} (h : rowOf v ahead T = some row) (ha : ahead.length ≤ 1048576) (hT : ∀ r ∈ T, r ≠ [] ∧ r.length ≤ 2097152) : row ≠ [] ∧ row.length ≤ 2097152 := by
  unfold rowOf at h
  split at h
  · simp only [Option.some.injEq] at h; subst h; simp
  · split at h
    · rename_i h1
      simp only [Option.some.injEq] at h; subst h
      refine hT _ ?_
      rw [List.getD_eq_getElem?_getD, List.getElem?_eq_getElem h1]
      exact List.getElem_mem _
    · split at h
      · rename_i h1
        simp only [Option.some.injEq] at h; subst h
        exact ⟨by simp [h1.2], by simp; omega⟩
      · cases h

/-- The program's loop tells just this. -/
theorem l10_spec (most : Nat) (hmost : most ≤ 1048576) : ∀ (k : Nat) (rb : List Int) (w m R c : Nat) (ahead : List Int) (T : List (List Int)) (out : List Int), Rd rb w m R c → m < 8 → rb.length ≤ 100000000 → c < k →
    ahead.length ≤ 1048576 → (∀ r ∈ T, r ≠ [] ∧ r.length ≤ 2097152) → T.length ≤ 3838 → out.length ≤ most →
    loopN g10_1 o10_1 b10_1 k ((most : Int), ahead, rb, (w : Int), (m : Int), out, T, ()) = some (.inl ((dec most k R c ahead T out).1, (dec most k R c ahead T out).2, ())) := by
  intro k
  induction k with
  | zero => intro rb w m R c ahead T out _ _ _ h; omega
  | succ k ih =>
    intro rb w m R c ahead T out h hm hl hk ha hT hTl ho
    rw [loopN_succ]
    generalize hL : loopN g10_1 o10_1 b10_1 k = L at ih ⊢
    unfold b10_1 dec
    simp only [if_true]
    rw [f14_eqn]
    simp only [Option.bind_some]
    have hs := sz_le T.length
    rcases Nat.lt_or_ge c (sz T.length) with hc | hc
    · obtain ⟨rb', w', m', h1⟩ := next_no h (n := sz T.length) (by omega) hm hl hc
      rw [h1]
      simp only [Option.bind_some, Bool.not_false, if_true]
      rw [if_pos hc]
      rfl
    · obtain ⟨rb', w', m', h1, h2, h3, h4⟩ := next_ok h (n := sz T.length) (by omega) hm hl hc
      rw [h1]
      simp only [Option.bind_some, Bool.not_true]
      rw [if_neg (by simp), if_neg (by omega)]
      have hR := h.lt
      have hv : R / 2 ^ (c - sz T.length) < 4096 := by
        rw [Nat.div_lt_iff_lt_mul (Nat.two_pow_pos _)]
        have : (2 : Nat) ^ c ≤ 4096 * 2 ^ (c - sz T.length) := by
          rw [show (4096 : Nat) = 2 ^ 12 from rfl, ← Nat.pow_add]
          exact Nat.pow_le_pow_right (by omega) (by omega)
        omega
      generalize R / 2 ^ (c - sz T.length) = v at hv
      rw [b10_2_eqn (most : Int) v hv ahead T rb' out w' m' (by omega)]
      by_cases e1 : v = 256
      · rw [if_pos e1, if_pos e1]
        simp only [Option.bind_some, Sum.elim_inl]
        exact ih rb' w' m' _ _ [] [] out h2 h3 (by omega) (by omega) (by simp) (fun r hr => by cases hr) (by simp) ho
      · rw [if_neg e1, if_neg e1]
        by_cases e2 : v = 257
        · rw [if_pos e2, if_pos e2]
          rfl
        · rw [if_neg e2, if_neg e2]
          cases hrow : rowOf v ahead T with
          | none => rfl
          | some row =>
            obtain ⟨hr1, hr2⟩ := rowOf_ok hrow ha hT
            simp only [Option.bind_some, Sum.elim_inr, Sum.elim_inl]
            rw [wrap_i64 (by omega)]
            by_cases e3 : most < out.length + row.length
            · rw [if_pos (by simp; omega), if_pos e3]
              rfl
            · have hrp : 0 < row.length := List.length_pos_iff.2 hr1
              rw [if_neg (by simp; omega), if_neg e3]
              simp only [List.drop_zero, List.take_length]
              rw [if_pos (by omega)]
              simp only [List.take_length, one_of, List.length_cons, List.length_nil, Int.toNat_natCast, Nat.sub_zero, Nat.zero_add]
              by_cases e4 : ahead = []
              · subst e4
                rw [if_neg (by simp)]
                simp only [Option.bind_some, Sum.elim_inl]
                have hg : grown [] row T = T := by unfold grown; rw [if_neg (by simp)]
                rw [hg]
                exact ih rb' w' m' _ _ row T (out ++ row) h2 h3 (by omega) (by omega) (by omega) hT hTl (by simp; omega)
              · have hp : 0 < ahead.length := List.length_pos_iff.2 e4
                rw [if_pos (by simp; omega)]
                by_cases e5 : T.length < 3838
                · rw [if_pos (by simp; omega), if_pos (by omega), if_pos (by omega), if_pos (by omega), if_pos (by omega), if_pos (by omega), if_pos (by omega)]
                  simp only [Option.bind_some, Sum.elim_inl]
                  have hg : grown ahead row T = T ++ [ahead ++ [row.getD 0 0]] := by unfold grown; rw [if_pos ⟨e4, e5⟩, take_one hr1]
                  rw [hg]
                  refine ih rb' w' m' _ _ row _ (out ++ row) h2 h3 (by omega) (by omega) (by omega) (fun r hr => ?_) (by simp; omega) (by simp; omega)
                  rcases List.mem_append.1 hr with h5 | h5
                  · exact hT r h5
                  · rw [List.mem_singleton] at h5; rw [h5]; exact ⟨by simp, by simp; omega⟩
                · rw [if_neg (by simp; omega)]
                  simp only [Option.bind_some, Sum.elim_inl]
                  have hg : grown ahead row T = T := by unfold grown; rw [if_neg (fun h => e5 h.2)]
                  rw [hg]
                  exact ih rb' w' m' _ _ row T (out ++ row) h2 h3 (by omega) (by omega) (by omega) hT hTl (by simp; omega)

theorem f10_eqn {b : List Int} (hb : IsB b) (hl : b.length ≤ 100000000) {most : Nat} (hm : most ≤ 1048576) :
    f10 (b, (most : Int), ()) = some ((dec most 18446744073709551616 (be b) (8 * b.length) [] [] []).1, (dec most 18446744073709551616 (be b) (8 * b.length) [] [] []).2, ()) := by
  unfold f10
  simp only [if_true]
  rw [if_neg (by simp), if_neg (by simp; omega)]
  have h := l10_spec most hm 18446744073709551616 b 0 0 (be b) (8 * b.length) [] [] [] ⟨by simp, hb, by omega, by simp⟩ (by omega) hl (by omega) (by simp) (fun r hr => by cases hr) (by simp) (by simp)
  have h' : loopN g10_1 o10_1 b10_1 18446744073709551616 ((most : Int), [], b, 0, 0, [], [], ()) = _ := h
  rw [show l10_1 = loopN g10_1 o10_1 b10_1 18446744073709551616 from rfl, h']
  rfl
theorem f10_bad {b : List Int} {most : Int} (h : most < 0 ∨ 1048576 < most) : f10 (b, most, ()) = some (1, [], ()) := by
  unfold f10
  simp only []
  by_cases h1 : most < 0
  · rw [if_pos (by simpa using h1)]
  · rw [if_neg (by simpa using h1), if_pos (by simp; omega)]
end Go.Ev.Lzw
