/- Part of a proof about the given program: LzwD4. -/
import Derived.Test.YtoobfjfmlejpeaaLzwD3
namespace Go.Ev.Lzw

/-! ## The reference's reader -/
theorem l21_spec (x : Nat) (hx : x < 256) (at8 : Nat) : ∀ (k j : Nat), 8 ≤ j + k → at8 ≤ j → j ≤ 7 →
    loopN g21_1 o21_1 b21_1 k (((x / 2 ^ (j - at8) : Nat) : Int), (j : Int), ()) = some (.inl (((x / 2 ^ (7 - at8) : Nat) : Int), ())) := by
  intro k
  induction k with
  | zero => intro j h1 h2; omega
  | succ k ih =>
    intro j h1 h2 h3
    rw [loopN_succ]
    generalize hL : loopN g21_1 o21_1 b21_1 k = L at ih ⊢
    unfold b21_1
    simp only []
    rcases Nat.lt_or_ge j 7 with h | h
    · rw [if_pos (by simp; omega)]
      simp only [Option.bind_some, Sum.elim_inl]
      have e1 : IntKind.wrap IntKind.i64 (((x / 2 ^ (j - at8) : Nat) : Int).tdiv 2) = ((x / 2 ^ (j + 1 - at8) : Nat) : Int) := by
        have e : x / 2 ^ (j + 1 - at8) = x / 2 ^ (j - at8) / 2 := by
          rw [Nat.div_div_eq_div_mul, ← Nat.pow_succ]; congr 2; omega
        rw [e]
        have := Nat.div_le_self x (2 ^ (j - at8))
        generalize x / 2 ^ (j - at8) = q at this
        rw [Int.tdiv_eq_ediv_of_nonneg (by omega), wrap_i64 (by omega)]; omega
      rw [e1, wrap_i64 (by omega), show ((j : Int) + 1) = ((j + 1 : Nat) : Int) by omega]
      exact ih (j + 1) (by omega) (by omega) (by omega)
    · rw [if_neg (by simp; omega)]
      have : j = 7 := by omega
      subst this
      rfl

/-- One bit. -/
theorem f21_eqn {b : List Int} (hb : IsB b) (hl : b.length ≤ 100000000) {t : Nat} (ht : t < 8 * b.length) : f21 (b, (t : Int), ()) = some (((be b / 2 ^ (8 * b.length - 1 - t) % 2 : Nat) : Int), ()) := by
  have h0 := hb.get (t / 8)
  have hg := be_get hb (j := t / 8) (by omega)
  have e1 : IntKind.wrap IntKind.i64 ((t : Int).tdiv 8) = ((t / 8 : Nat) : Int) := by
    rw [Int.tdiv_eq_ediv_of_nonneg (by omega), wrap_i64 (by omega)]; omega
  have e2 : (t : Int).tmod 8 = ((t % 8 : Nat) : Int) := by rw [Int.tmod_eq_emod_of_nonneg (by omega)]; omega
  obtain ⟨x, hx⟩ : ∃ x : Nat, b.getD (t / 8) 0 = (x : Int) := ⟨(b.getD (t / 8) 0).toNat, by omega⟩
  rw [hx] at h0 hg
  unfold f21
  simp only []
  rw [e1, e2]
  simp only [Int.toNat_natCast]
  rw [if_pos (by omega), if_pos (by omega), hx, wrap_i64 (by omega)]
  have g := l21_spec x (by omega) (t % 8) 18446744073709551616 (t % 8) (by omega) (by omega) (by omega)
  rw [Nat.sub_self, Nat.pow_zero, Nat.div_one] at g
  rw [show l21_1 = loopN g21_1 o21_1 b21_1 18446744073709551616 from rfl, g]
  simp only [Option.bind_some, Sum.elim_inl]
  have e3 : (((x / 2 ^ (7 - t % 8) : Nat) : Int).tmod 2) = ((x / 2 ^ (7 - t % 8) % 2 : Nat) : Int) := by
    generalize x / 2 ^ (7 - t % 8) = q
    rw [Int.tmod_eq_emod_of_nonneg (by omega)]; omega
  rw [e3]
  have e4 : x / 2 ^ (7 - t % 8) % 2 = be b / 2 ^ (8 * b.length - 1 - t) % 2 := by
    have h5 : (2 : Nat) ^ (8 * b.length - 1 - t) = 256 ^ (b.length - 1 - t / 8) * 2 ^ (7 - t % 8) := by
      rw [pow256, ← Nat.pow_add]; congr 1; omega
    rw [h5, ← Nat.div_div_eq_div_mul]
    rw [Int.toNat_natCast] at hg
    rw [hg]
    generalize be b / 256 ^ (b.length - 1 - t / 8) = y
    rw [show (256 : Nat) = 2 ^ (7 - t % 8) * (2 * 2 ^ (t % 8)) by rw [← Nat.pow_succ', ← Nat.pow_add, show 7 - t % 8 + (t % 8 + 1) = 8 by omega], Nat.mod_mul_right_div_self, Nat.mod_mul_right_mod]
  rw [e4]

theorem bit_in {R c j : Nat} (hj : j < c) : R / 2 ^ (c - (j + 1)) = 2 * (R / 2 ^ (c - j)) + R / 2 ^ (c - 1 - j) % 2 := by
  have e : (2 : Nat) ^ (c - j) = 2 ^ (c - (j + 1)) * 2 := by rw [← Nat.pow_succ]; congr 1; omega
  rw [e, ← Nat.div_div_eq_div_mul, show c - 1 - j = c - (j + 1) by omega]
  omega

/-- So many bits are read. -/
theorem l11_2_spec {b : List Int} (hb : IsB b) (hl : b.length ≤ 100000000) (most : Int) (ahead : ByteArray) (out : List Int) (Ts : List ByteArray) (n c : Nat) (hn : n ≤ 12) (hc : c ≤ 8 * b.length) :
    ∀ (k j : Nat), n < j + k → j ≤ n → j ≤ c →
    (n ≤ c ∧ loopN g11_2 o11_2 b11_2 k (b, most, ahead, ((8 * b.length - c + j : Nat) : Int), ((be b % 2 ^ c / 2 ^ (c - j) : Nat) : Int), ((n - j : Nat) : Int), out, Ts, ()) = some (.inl (b, most, ahead, ((8 * b.length - (c - n) : Nat) : Int), ((be b % 2 ^ c / 2 ^ (c - n) : Nat) : Int), out, Ts, ()))) ∨
    (c < n ∧ loopN g11_2 o11_2 b11_2 k (b, most, ahead, ((8 * b.length - c + j : Nat) : Int), ((be b % 2 ^ c / 2 ^ (c - j) : Nat) : Int), ((n - j : Nat) : Int), out, Ts, ()) = some (.inr (.inl ([], 6, ())))) := by
  intro k
  induction k with
  | zero => intro j h1 h2; omega
  | succ k ih =>
    intro j h1 h2 h3
    rw [loopN_succ]
    generalize hL : loopN g11_2 o11_2 b11_2 k = L at ih ⊢
    unfold b11_2
    simp only [if_true]
    rcases Nat.lt_or_ge j n with h | h
    · rw [if_pos (by simp; omega)]
      have e1 : IntKind.wrap IntKind.i64 (8 * ((b.length : Nat) : Int)) = ((8 * b.length : Nat) : Int) := by rw [wrap_i64 (by omega)]; omega
      rw [e1]
      rcases Nat.lt_or_ge j c with g | g
      · rw [if_neg (by simp; omega), f21_eqn hb hl (by omega)]
        simp only [Option.bind_some, Sum.elim_inl]
        have hv : be b % 2 ^ c / 2 ^ (c - j) < 4096 := by
          rw [Nat.div_lt_iff_lt_mul (Nat.two_pow_pos _)]
          have h5 := Nat.mod_lt (be b) (Nat.two_pow_pos c)
          have : (2 : Nat) ^ c ≤ 4096 * 2 ^ (c - j) := by
            rw [show (4096 : Nat) = 2 ^ 12 from rfl, ← Nat.pow_add]
            exact Nat.pow_le_pow_right (by omega) (by omega)
          omega
        have hbit : be b / 2 ^ (8 * b.length - 1 - (8 * b.length - c + j)) % 2 = be b % 2 ^ c / 2 ^ (c - 1 - j) % 2 := by
          rw [show 8 * b.length - 1 - (8 * b.length - c + j) = c - 1 - j by omega]
          rw [show (2 : Nat) ^ c = 2 ^ (c - 1 - j) * (2 * 2 ^ j) by rw [← Nat.pow_succ', ← Nat.pow_add]; congr 1; omega, Nat.mod_mul_right_div_self, Nat.mod_mul_right_mod]
        rw [hbit]
        have hin := bit_in (R := be b % 2 ^ c) g
        have e2 : IntKind.wrap IntKind.i64 (IntKind.wrap IntKind.i64 (2 * ((be b % 2 ^ c / 2 ^ (c - j) : Nat) : Int)) + ((be b % 2 ^ c / 2 ^ (c - 1 - j) % 2 : Nat) : Int)) = ((be b % 2 ^ c / 2 ^ (c - (j + 1)) : Nat) : Int) := by
          rw [hin]
          generalize be b % 2 ^ c / 2 ^ (c - j) = q at hv
          generalize be b % 2 ^ c / 2 ^ (c - 1 - j) = r
          rw [wrap_i64 (n := 2 * (q : Int)) (by omega), wrap_i64 (by omega)]; omega
        rw [e2, wrap_i64 (n := ((8 * b.length - c + j : Nat) : Int) + 1) (by omega), wrap_i64 (by omega), show (((8 * b.length - c + j : Nat) : Int) + 1) = ((8 * b.length - c + (j + 1) : Nat) : Int) by omega, show (((n - j : Nat) : Int) - 1) = ((n - (j + 1) : Nat) : Int) by omega]
        exact ih (j + 1) (by omega) (by omega) (by omega)
      · rw [if_pos (by simp; omega)]
        exact .inr ⟨by omega, rfl⟩
    · rw [if_neg (by simp; omega)]
      have : j = n := by omega
      subst this
      refine .inl ⟨h3, ?_⟩
      rw [show 8 * b.length - (c - j) = 8 * b.length - c + j by omega]
      rfl

theorem b11_3_eqn (b : List Int) (most : Int) (v : Nat) (hv : v < 4096) (hv1 : v ≠ 256) (hv2 : v ≠ 257) {ahead : List Int} (hab : IsB ahead) (ha : ahead.length ≤ 2097152) (t : Int) (out : List Int) (T : List (List Int)) :
    b11_3 (b, most, bytesStr ahead, t, (v : Int), out, T.map bytesStr, ()) =
      match rowOf v ahead T with | none => some (.inr (.inl ([], 4, ()))) | some row => some (.inl (b, most, bytesStr ahead, t, bytesStr row, out, T.map bytesStr, ())) := by
  unfold b11_3 rowOf
  simp only [if_true, List.drop_zero, one_of, List.length_map, bytesStr_size, str_nil]
  rw [str_beq hab IsB.nil]
  by_cases h3 : v < 256
  · rw [if_pos (by simp; omega), if_pos h3, wrap_u8, show ((v : Int) % 256) = (v : Int) by omega]
    rfl
  · rw [if_neg (by simp; omega), if_neg h3, wrap_i64 (by omega), show ((v : Int) - 258) = ((v - 258 : Nat) : Int) by omega]
    simp only [Int.toNat_natCast, Nat.zero_add]
    by_cases h4 : v - 258 < T.length
    · rw [if_pos (by simp; omega), if_pos h4, if_pos (by omega), if_pos (by omega), show (T.map bytesStr).getD (v - 258) (bytesStr []) = bytesStr (T.getD (v - 258) []) from strs_getD ..]
    · rw [if_neg (by simp; omega), if_neg h4]
      by_cases h5 : v - 258 = T.length
      · rw [if_pos (by simp; omega)]
        by_cases h6 : ahead = []
        · subst h6
          rw [if_neg (by simp), if_neg (by simp)]
        · have hp : 0 < ahead.length := List.length_pos_iff.2 h6
          rw [if_pos (by simpa using h6), if_pos (by omega), str_cut, List.drop_zero, bytesStr_size, if_pos (by rw [List.length_take]; omega), if_pos (show v - 258 = T.length ∧ ahead ≠ [] from ⟨h5, h6⟩), str_cat]
      · rw [if_neg (by simp; omega), if_neg (fun h => h5 h.1)]

theorem rowOf_isB {v : Nat} {ahead : List Int} {T : List (List Int)} {row : List Int} (h : rowOf v ahead T = some row) (ha : IsB ahead) (hT : ∀ r ∈ T, IsB r) : IsB row := by
  unfold rowOf at h
  split at h
  · simp only [Option.some.injEq] at h; subst h; exact IsB.one (by omega)
  · split at h
    · rename_i h1
      simp only [Option.some.injEq] at h; subst h
      refine hT _ ?_
      rw [List.getD_eq_getElem?_getD, List.getElem?_eq_getElem h1]
      exact List.getElem_mem _
    · split at h
      · simp only [Option.some.injEq] at h; subst h
        exact ha.append (ha.take _)
      · cases h

theorem l11_spec {b : List Int} (hb : IsB b) (hlb : b.length ≤ 100000000) (most : Nat) (hmost : most ≤ 1048576) : ∀ (k c : Nat) (ahead : List Int) (T : List (List Int)) (out : List Int), c ≤ 8 * b.length → c < k → IsB ahead →
    ahead.length ≤ 1048576 → (∀ r ∈ T, IsB r ∧ r ≠ [] ∧ r.length ≤ 2097152) → T.length ≤ 3838 → out.length ≤ most →
    loopN g11_1 o11_1 b11_1 k (b, (most : Int), bytesStr ahead, ((8 * b.length - c : Nat) : Int), out, T.map bytesStr, ()) = some (.inl ((dec most k (be b % 2 ^ c) c ahead T out).2, (dec most k (be b % 2 ^ c) c ahead T out).1, ())) := by
  intro k
  induction k with
  | zero => intro c ahead T out _ h; omega
  | succ k ih =>
    intro c ahead T out hc hk hab ha hT hTl ho
    rw [loopN_succ]
    generalize hL : loopN g11_1 o11_1 b11_1 k = L at ih ⊢
    unfold b11_1 dec
    simp only [if_true, List.drop_zero, List.take_length, List.length_map, str_nil]
    rw [f18_eqn]
    simp only [Option.bind_some]
    have hs := sz_le T.length
    have hq := l11_2_spec hb hlb (most : Int) (bytesStr ahead) out (T.map bytesStr) (sz T.length) c (by omega) hc 18446744073709551616 0 (by omega) (by omega) (by omega)
    have hz : be b % 2 ^ c / 2 ^ (c - 0) = 0 := by rw [Nat.sub_zero]; exact Nat.div_eq_of_lt (Nat.mod_lt _ (Nat.two_pow_pos _))
    rw [hz, Nat.add_zero, Nat.sub_zero] at hq
    rw [show l11_2 = loopN g11_2 o11_2 b11_2 18446744073709551616 from rfl]
    rcases hq with ⟨hc2, h1⟩ | ⟨hc2, h1⟩
    · have h1' : loopN g11_2 o11_2 b11_2 18446744073709551616 (b, (most : Int), bytesStr ahead, ((8 * b.length - c : Nat) : Int), 0, ((sz T.length : Nat) : Int), out, T.map bytesStr, ()) = _ := h1
      rw [h1', if_neg (by omega)]
      simp only [Option.bind_some, Sum.elim_inl]
      have hR := Nat.mod_lt (be b) (Nat.two_pow_pos c)
      have hv : be b % 2 ^ c / 2 ^ (c - sz T.length) < 4096 := by
        rw [Nat.div_lt_iff_lt_mul (Nat.two_pow_pos _)]
        have : (2 : Nat) ^ c ≤ 4096 * 2 ^ (c - sz T.length) := by
          rw [show (4096 : Nat) = 2 ^ 12 from rfl, ← Nat.pow_add]
          exact Nat.pow_le_pow_right (by omega) (by omega)
        omega
      have hm : be b % 2 ^ c % 2 ^ (c - sz T.length) = be b % 2 ^ (c - sz T.length) := by
        rw [show (2 : Nat) ^ c = 2 ^ (c - sz T.length) * 2 ^ sz T.length by rw [← Nat.pow_add]; congr 1; omega, Nat.mod_mul_right_mod]
      rw [hm]
      generalize be b % 2 ^ c / 2 ^ (c - sz T.length) = v at hv
      by_cases e1 : v = 256
      · rw [if_pos (by simp; omega), if_pos e1]
        simp only [Option.bind_some, Sum.elim_inl]
        exact ih _ [] [] out (by omega) (by omega) IsB.nil (by simp) (fun r hr => by cases hr) (by simp) ho
      · rw [if_neg (by simp; omega), if_neg e1]
        by_cases e2 : v = 257
        · rw [if_pos (by simp; omega), if_pos e2]
          rfl
        · rw [if_neg (by simp; omega), if_neg e2, b11_3_eqn b (most : Int) v hv e1 e2 hab (by omega)]
          cases hrow : rowOf v ahead T with
          | none => rfl
          | some row =>
            obtain ⟨hr1, hr2⟩ := rowOf_ok hrow ha (fun r hr => (hT r hr).2)
            have hrb := rowOf_isB hrow hab (fun r hr => (hT r hr).1)
            have hrp : 0 < row.length := List.length_pos_iff.2 hr1
            simp only [Option.bind_some]
            simp only [Sum.elim_inl]
            simp only [List.length_map]
            simp only [bytesStr_size]
            have hone : List.take 1 ((List.replicate 1 (bytesStr [])).set 0 (bytesStr ahead ++ (bytesStr row).extract 0 1)) = [bytesStr (ahead ++ row.take 1)] := by
              rw [one_of, str_cut, str_cat, List.drop_zero]
            rw [hone, str_bytes hrb]
            have hlen1 : (bytesStr row).data.toList.length = row.length := by rw [str_data, List.length_map]
            rw [hlen1]
            rw [str_beq hab IsB.nil, wrap_i64 (by omega)]
            by_cases e3 : most < out.length + row.length
            · rw [if_pos (by simp; omega), if_pos e3]
              rfl
            · rw [if_neg (by simp; omega), if_neg e3, if_pos (by omega)]
              by_cases e4 : ahead = []
              · subst e4
                rw [if_neg (by simp)]
                simp only [Option.bind_some, Sum.elim_inl]
                have hg : grown [] row T = T := by unfold grown; rw [if_neg (by simp)]
                rw [hg]
                exact ih _ row T (out ++ row) (by omega) (by omega) hrb (by omega) hT hTl (by simp; omega)
              · have hp : 0 < ahead.length := List.length_pos_iff.2 e4
                rw [if_pos (by simpa using e4)]
                by_cases e5 : T.length < 3838
                · rw [if_pos (by simp; omega), if_pos (by omega), if_pos (by rw [str_cut, bytesStr_size, List.length_drop, List.length_take]; omega), if_pos (by rw [List.length_singleton]; omega)]
                  simp only [Option.bind_some, Sum.elim_inl]
                  have hg : grown ahead row T = T ++ [ahead ++ row.take 1] := by unfold grown; rw [if_pos ⟨e4, e5⟩]
                  rw [hg]
                  have hstep := ih (c - sz T.length) row (T ++ [ahead ++ row.take 1]) (out ++ row) (by omega) (by omega) hrb (by omega) (fun r hr => ?_) (by simp; omega) (by simp; omega)
                  · rw [List.map_append] at hstep
                    exact hstep
                  · rcases List.mem_append.1 hr with h5 | h5
                    · exact hT r h5
                    · rw [List.mem_singleton] at h5; rw [h5]
                      exact ⟨hab.append (hrb.take _), by simp [e4], by simp; omega⟩
                · rw [if_neg (by simp; omega)]
                  simp only [Option.bind_some, Sum.elim_inl]
                  have hg : grown ahead row T = T := by unfold grown; rw [if_neg (fun h => e5 h.2)]
                  rw [hg]
                  exact ih _ row T (out ++ row) (by omega) (by omega) hrb (by omega) hT hTl (by simp; omega)
    · have h1' : loopN g11_2 o11_2 b11_2 18446744073709551616 (b, (most : Int), bytesStr ahead, ((8 * b.length - c : Nat) : Int), 0, ((sz T.length : Nat) : Int), out, T.map bytesStr, ()) = _ := h1
      rw [h1', if_pos hc2]
      rfl

theorem f11_eqn {b : List Int} (hb : IsB b) (hl : b.length ≤ 100000000) {most : Nat} (hm : most ≤ 1048576) :
    f11 (b, (most : Int), ()) = some ((dec most 18446744073709551616 (be b) (8 * b.length) [] [] []).2, (dec most 18446744073709551616 (be b) (8 * b.length) [] [] []).1, ()) := by
  unfold f11
  simp only [str_nil]
  rw [if_neg (by simp), if_neg (by simp; omega)]
  have h := l11_spec hb hl most hm 18446744073709551616 (8 * b.length) [] [] [] (by omega) (by omega) IsB.nil (by simp) (fun r hr => by cases hr) (by simp) (by simp)
  have hlt := be_lt hb
  rw [pow256] at hlt
  rw [Nat.sub_self, Nat.mod_eq_of_lt hlt] at h
  have h' : loopN g11_1 o11_1 b11_1 18446744073709551616 (b, (most : Int), bytesStr [], 0, [], [], ()) = _ := h
  rw [show l11_1 = loopN g11_1 o11_1 b11_1 18446744073709551616 from rfl, h']
  rfl
theorem f11_bad {b : List Int} {most : Int} (h : most < 0 ∨ 1048576 < most) : f11 (b, most, ()) = some ([], 1, ()) := by
  unfold f11
  simp only []
  by_cases h1 : most < 0
  · rw [if_pos (by simpa using h1)]
  · rw [if_neg (by simpa using h1), if_pos (by simp; omega)]
end Go.Ev.Lzw
