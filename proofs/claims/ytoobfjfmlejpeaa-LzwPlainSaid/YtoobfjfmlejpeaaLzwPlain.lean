/- Part of a proof about the given program: LzwPlain. -/
import Derived.Test.YtoobfjfmlejpeaaLzwB
import Derived.Test.YtoobfjfmlejpeaaBig2
namespace Go.Ev.Lzw

/-- Numbers of nine bits. -/
def nine (l : List Int) : List (Nat × Nat) := l.map fun x => (x.toNat, 9)
theorem cl_nine : ∀ l : List Int, cl (nine l) = 9 * l.length
  | [] => rfl
  | x :: l => by
    have := cl_nine l
    simp only [nine, List.map_cons, cl, List.length_cons] at *
    omega
theorem nine_append (a b : List Int) : nine (a ++ b) = nine a ++ nine b := by simp [nine]

theorem dec_plain (most p j : Nat) (hj : j < 2 ^ p) : ∀ (b : List Int) (K : Nat) (ahead : List Int) (Td : List (List Int)) (out : List Int), IsB b → Td.length + b.length ≤ 252 → out.length + b.length ≤ most → b.length < K →
    dec most K (cn (nine (b ++ [257])) * 2 ^ p + j) (cl (nine (b ++ [257])) + p) ahead Td out = (0, out ++ b)
  | [], K, ahead, Td, out, _, h1, h2, hK => by
    obtain ⟨K, rfl⟩ : ∃ K', K = K' + 1 := ⟨K - 1, by omega⟩
    have e : nine ([] ++ [257]) = [(257, 9)] := rfl
    rw [e, dec_step (fun x hx => by cases hx) hj (by unfold sz; rw [if_pos (by simp at h1; omega)]), if_neg (by decide), if_pos rfl]
    simp
  | x :: b, K, ahead, Td, out, hb, h1, h2, hK => by
    obtain ⟨K, rfl⟩ : ∃ K', K = K' + 1 := ⟨K - 1, by omega⟩
    have hx := hb x (List.mem_cons_self ..)
    have hb' : IsB b := fun y hy => hb y (List.mem_cons_of_mem _ hy)
    simp only [List.length_cons] at h1 h2 hK
    have e : nine (x :: b ++ [257]) = (x.toNat, 9) :: nine (b ++ [257]) := rfl
    have hf : Fit (nine (b ++ [257])) := fun y hy => by
      unfold nine at hy
      obtain ⟨z, hz, rfl⟩ := List.mem_map.1 hy
      rcases List.mem_append.1 hz with hz | hz
      · have := hb' z hz
        simp only []
        have : (2:Nat)^9 = 512 := rfl
        omega
      · rw [List.mem_singleton] at hz
        subst hz
        decide
    rw [e, dec_step hf hj (by unfold sz; rw [if_pos (by omega)]), if_neg (by omega), if_neg (by omega)]
    have hrow : rowOf x.toNat ahead Td = some [x] := by
      unfold rowOf
      rw [if_pos (by omega), show ((x.toNat : Nat) : Int) = x by omega]
    rw [hrow]
    simp only [List.length_cons, List.length_nil]
    rw [if_neg (by omega)]
    have hg : (grown ahead [x] Td).length ≤ Td.length + 1 := by
      unfold grown
      split
      · simp
      · omega
    rw [dec_plain most p j hj b K [x] _ (out ++ [x]) hb' (by omega) (by simp; omega) (by omega)]
    simp

theorem tdivp {v n : Nat} (h : v < 9223372036854775808) : IntKind.wrap .i64 (Int.tdiv (v : Int) ((2 ^ n : Nat) : Int)) = ((v / 2 ^ n : Nat) : Int) := by
  rw [Int.tdiv_eq_ediv_of_nonneg (by omega), ← Int.natCast_ediv]
  have hle := Nat.div_le_self v (2 ^ n)
  generalize v / 2 ^ n = q at hle
  rw [wrap_i64 (by omega)]

theorem l6_3_spec (b : List Int) (i : Nat) (l : List Int) (hi : i < l.length) (hll : l.length ≤ 300) (v : Nat) (hv : l.getD i 0 = (v : Int)) (hv5 : v < 512) (P : Nat) : ∀ (k j : Nat) (c : List Int), j ≤ 9 → 9 < j + k → IsB c → 9 * l.length ≤ 8 * c.length → c.length ≤ 1000 →
    be c = (P * 2 ^ j + v / 2 ^ (9 - j)) * 2 ^ (8 * c.length - (9 * i + j)) →
    ∃ c2 : List Int, loopN g6_3 o6_3 b6_3 k (b, (i : Int), ((2 ^ (8 - j) : Nat) : Int), (j : Int), l, c, ()) = some (.inl (b, (i : Int), l, c2, ())) ∧ IsB c2 ∧ c2.length = c.length ∧ be c2 = (P * 512 + v) * 2 ^ (8 * c.length - 9 * (i + 1)) := by
  intro k
  induction k with
  | zero => intro j c h1 h2; omega
  | succ k ih =>
    intro j c h1 h2 hb hcl hc1 hbe
    rw [loopN_succ]
    generalize hL : loopN g6_3 o6_3 b6_3 k = L at ih ⊢
    unfold b6_3
    simp only [if_true, Int.toNat_natCast, Nat.zero_add]
    rcases Nat.lt_or_ge j 9 with h | h
    · have hpos := Nat.two_pow_pos (8 - j)
      have hp256 : (2 : Nat) ^ (8 - j) ≤ 256 := by
        have : (2 : Nat) ^ (8 - j) ≤ 2 ^ 8 := Nat.pow_le_pow_right (by omega) (by omega)
        simpa using this
      have hpne : ∀ p : Nat, 0 < p → ¬ ((p : Int) = 0) := fun p hp => by omega
      rw [if_pos (by simp; omega), if_pos (by omega), if_pos (by omega), if_neg (hpne _ hpos), hv, tdivp (by omega)]
      have hbit : (Int.tmod ((v / 2 ^ (8 - j) : Nat) : Int) 2 == 1) = decide (v / 2 ^ (8 - j) % 2 = 1) := by
        generalize v / 2 ^ (8 - j) = q
        rw [Int.tmod_eq_emod_of_nonneg (by omega)]
        rcases Nat.mod_two_eq_zero_or_one q with h3 | h3
        · rw [h3]
          have : ((q : Int) % 2) = 0 := by omega
          rw [this]; rfl
        · rw [h3]
          have : ((q : Int) % 2) = 1 := by omega
          rw [this]; rfl
      rw [hbit]
      have hmax : Max.max (IntKind.wrap .i64 (Int.tdiv ((2 ^ (8 - j) : Nat) : Int) 2)) 1 = ((2 ^ (8 - (j + 1)) : Nat) : Int) := by
        by_cases hj8 : j = 8
        · subst hj8; decide
        · have e : (2 : Nat) ^ (8 - j) = 2 * 2 ^ (8 - (j + 1)) := by rw [← Nat.pow_succ']; congr 1; omega
          have hp2 := Nat.two_pow_pos (8 - (j + 1))
          rw [e] at hp256 ⊢
          generalize (2 : Nat) ^ (8 - (j + 1)) = q at *
          rw [Int.tdiv_eq_ediv_of_nonneg (by omega), wrap_i64 (by omega)]
          omega
      rw [hmax]
      have hdd : v / 2 ^ (8 - j) = 2 * (v / 2 ^ (9 - j)) + v / 2 ^ (8 - j) % 2 := by
        have e : v / 2 ^ (9 - j) = v / 2 ^ (8 - j) / 2 := by
          rw [Nat.div_div_eq_div_mul, ← Nat.pow_succ]; congr 2; omega
        omega
      have hN : P * 2 ^ (j + 1) + v / 2 ^ (9 - (j + 1)) = 2 * (P * 2 ^ j + v / 2 ^ (9 - j)) + v / 2 ^ (8 - j) % 2 := by
        rw [show 9 - (j + 1) = 8 - j by omega, hdd, Nat.pow_succ]
        rw [show (2 * (v / 2 ^ (9 - j)) + v / 2 ^ (8 - j) % 2) % 2 = v / 2 ^ (8 - j) % 2 by omega]
        rw [← Nat.mul_assoc]
        omega
      by_cases hb1 : v / 2 ^ (8 - j) % 2 = 1
      · rw [decide_eq_true hb1, if_pos rfl]
        rw [wrap_i64 (n := 9 * (i : Int)) (by omega), wrap_i64 (n := 9 * (i : Int) + j) (by omega)]
        have e8 : Int.tdiv (9 * (i : Int) + j) 8 = (((9 * i + j) / 8 : Nat) : Int) := by rw [Int.tdiv_eq_ediv_of_nonneg (by omega)]; omega
        have em : Int.tmod (9 * (i : Int) + j) 8 = (((9 * i + j) % 8 : Nat) : Int) := by rw [Int.tmod_eq_emod_of_nonneg (by omega)]; omega
        rw [e8, em, wrap_i64 (n := (((9 * i + j) / 8 : Nat) : Int)) (by omega), wrap_i64 (n := 7 - (((9 * i + j) % 8 : Nat) : Int)) (by omega)]
        rw [if_pos (by omega), if_pos (by omega), if_neg (by omega), if_pos (by omega), if_pos (by omega)]
        simp only [Int.toNat_natCast, List.length_set, if_true]
        rw [show (7 - (((9 * i + j) % 8 : Nat) : Int)) = ((7 - (9 * i + j) % 8 : Nat) : Int) by omega]
        have emin : Min.min (Int.toNat ((7 - (9 * i + j) % 8 : Nat) : Int)) 8 = 7 - (9 * i + j) % 8 := by rw [Int.toNat_natCast]; omega
        rw [emin]
        obtain ⟨s1, s2⟩ := be_setbit hb (t := 9 * i + j) (by omega) hbe
        have hg0 := hb.get ((9 * i + j) / 8)
        have epow : ((1 : Int) * 2 ^ (7 - (9 * i + j) % 8)) = ((2 ^ (7 - (9 * i + j) % 8) : Nat) : Int) := by rw [Int.one_mul]; simp
        rw [epow, wrap_u8, wrap_u8]
        have hgen : ∀ (g : Int) (q : Nat), 0 ≤ g → g.toNat + q < 256 → (g + (q : Int) % 256) % 256 = g + (q : Int) ∧ (0 ≤ g + (q : Int) ∧ g + (q : Int) < 256) := fun g q k1 k2 => by omega
        obtain ⟨f1, f2⟩ := hgen _ _ hg0.1 s1
        rw [f1]
        simp only [Option.bind_some, Sum.elim_inl]
        rw [wrap_i64 (n := (j : Int) + 1) (by omega)]
        obtain ⟨c2, t1, t2, t3, t4⟩ := ih (j + 1) (c.set ((9 * i + j) / 8) (c.getD ((9 * i + j) / 8) 0 + ((2 ^ (7 - (9 * i + j) % 8) : Nat) : Int))) (by omega) (by omega) (hb.set f2) (by simpa using hcl) (by simpa using hc1) (by
          rw [s2, hN, hb1, List.length_set]
          rw [show 9 * i + (j + 1) = 9 * i + j + 1 by omega])
        rw [List.length_set] at t3 t4
        exact ⟨c2, t1, t2, t3, t4⟩
      · have hb0 : v / 2 ^ (8 - j) % 2 = 0 := by omega
        rw [decide_eq_false hb1, if_neg (by simp)]
        simp only [Option.bind_some, Sum.elim_inl]
        rw [wrap_i64 (n := (j : Int) + 1) (by omega)]
        refine ih (j + 1) c (by omega) (by omega) hb hcl hc1 ?_
        rw [hbe, hN, hb0, Nat.add_zero, Nat.mul_comm 2, Nat.mul_assoc, ← Nat.pow_succ']
        congr 2
        omega
    · have e : j = 9 := by omega
      subst e
      rw [if_neg (by simp)]
      refine ⟨c, rfl, hb, rfl, ?_⟩
      rw [hbe]
      simp only [Nat.sub_self, Nat.pow_zero, Nat.div_one]
      rw [show (2:Nat)^9 = 512 from rfl, show 9 * i + 9 = 9 * (i + 1) by omega]

theorem cn_nine_snoc (a : List Int) (x : Int) : cn (nine (a ++ [x])) = cn (nine a) * 512 + x.toNat := by
  rw [nine_append, cn_append]
  simp only [nine, List.map_cons, List.map_nil, cl, cn, Nat.pow_zero, Nat.mul_one, Nat.add_zero]

theorem l6_2_spec (b : List Int) (l : List Int) (hll : l.length ≤ 300) (hl : ∀ x ∈ l, 0 ≤ x ∧ x < 512) : ∀ (k i : Nat) (c : List Int), i ≤ l.length → l.length < i + k → IsB c → 9 * l.length ≤ 8 * c.length → c.length ≤ 1000 →
    be c = cn (nine (l.take i)) * 2 ^ (8 * c.length - 9 * i) →
    ∃ c2 : List Int, loopN g6_2 o6_2 b6_2 k (b, (i : Int), l, c, ()) = some (.inl (b, c2, ())) ∧ IsB c2 ∧ c2.length = c.length ∧ be c2 = cn (nine l) * 2 ^ (8 * c.length - 9 * l.length) := by
  intro k
  induction k with
  | zero => intro i c h1 h2; omega
  | succ k ih =>
    intro i c h1 h2 hb hcl hc1 hbe
    rw [loopN_succ]
    generalize hL : loopN g6_2 o6_2 b6_2 k = L at ih ⊢
    unfold b6_2
    simp only [if_true]
    rcases Nat.lt_or_ge i l.length with h | h
    · rw [if_pos (by simp; omega)]
      have hmem : l.getD i 0 ∈ l := by rw [List.getD_eq_getElem?_getD, List.getElem?_eq_getElem h]; exact List.getElem_mem _
      have hx := hl _ hmem
      have e : l.getD i 0 = (((l.getD i 0).toNat : Nat) : Int) := by omega
      obtain ⟨c2, t1, t2, t3, t4⟩ := l6_3_spec b i l h hll (l.getD i 0).toNat e (by omega) (cn (nine (l.take i))) 18446744073709551616 0 c (by omega) (by omega) hb hcl hc1 (by
        rw [hbe, show ((l.getD i 0).toNat / 2 ^ (9 - 0)) = 0 from Nat.div_eq_of_lt (by have : (2:Nat)^9 = 512 := rfl; omega)]
        simp)
      have t1' : loopN g6_3 o6_3 b6_3 18446744073709551616 (b, (i : Int), 256, 0, l, c, ()) = _ := t1
      rw [show l6_3 = loopN g6_3 o6_3 b6_3 18446744073709551616 from rfl, t1']
      simp only [Option.bind_some, Sum.elim_inl]
      rw [wrap_i64 (by omega)]
      obtain ⟨c3, u1, u2, u3, u4⟩ := ih (i + 1) c2 (by omega) (by omega) t2 (by omega) (by omega) (by
        rw [t4, t3]
        have ht : l.take (i + 1) = l.take i ++ [l.getD i 0] := by
          rw [List.take_add_one, List.getD_eq_getElem?_getD, List.getElem?_eq_getElem h]; rfl
        rw [ht, cn_nine_snoc])
      rw [t3] at u3 u4
      exact ⟨c3, u1, u2, u3, u4⟩
    · rw [if_neg (by simp; omega)]
      have e : i = l.length := by omega
      subst e
      refine ⟨c, rfl, hb, rfl, ?_⟩
      rw [hbe, List.take_length]

theorem l6_1_spec (b : List Int) (hb : IsB b) (hbl : b.length ≤ 200) : ∀ (k j : Nat), j ≤ b.length → b.length < j + k →
    loopN g6_1 o6_1 b6_1 k (b, (j : Int), 256 :: b.take j, ()) = some (.inl (b, 256 :: b, ())) := by
  intro k
  induction k with
  | zero => intro j h1 h2; omega
  | succ k ih =>
    intro j h1 h2
    rw [loopN_succ]
    generalize hL : loopN g6_1 o6_1 b6_1 k = L at ih ⊢
    unfold b6_1
    simp only [if_true, List.drop_zero, List.take_length, one_of, Int.toNat_natCast]
    simp only [List.length_cons, List.length_nil, List.length_take]
    rcases Nat.lt_or_ge j b.length with h | h
    · have h0 := hb.get j
      rw [if_pos (by simp; omega), if_pos (by omega), if_pos (by omega), if_pos (by omega), wrap_i64 (n := b.getD j 0) (by omega), wrap_i64 (by omega)]
      simp only [Option.bind_some, Sum.elim_inl, List.cons_append]
      have ht : b.take j ++ [b.getD j 0] = b.take (j + 1) := by
        rw [List.take_add_one, List.getD_eq_getElem?_getD, List.getElem?_eq_getElem h]; rfl
      rw [ht]
      exact ih (j + 1) (by omega) (by omega)
    · rw [if_neg (by simp; omega)]
      rw [List.take_of_length_le h]
      rfl

theorem lzwPlain_pure (b : List Int) (hb : IsB b) : f6 (b, ()) = some (true, ()) := by
  unfold f6
  simp only []
  by_cases h1 : 200 < b.length
  · rw [if_pos (by simp; omega)]
  · rw [if_neg (by simp; omega)]
    have g := l6_1_spec b hb (by omega) 18446744073709551616 0 (by omega) (by omega)
    have g' : loopN g6_1 o6_1 b6_1 18446744073709551616 (b, 0, [256], ()) = _ := g
    simp only [List.nil_append, List.drop_zero, one_of]
    rw [show l6_1 = loopN g6_1 o6_1 b6_1 18446744073709551616 from rfl, g']
    simp only [Option.bind_some, Sum.elim_inl, List.take_length]
    simp only [List.length_append, List.length_cons, List.length_nil, if_true]
    rw [if_pos (by omega)]
    have e1 : IntKind.wrap .i64 (Int.tdiv (IntKind.wrap .i64 (IntKind.wrap .i64 (9 * ((b.length + 1 + (0 + 1) : Nat) : Int)) + 7)) 8) = (((9 * (b.length + 2) + 7) / 8 : Nat) : Int) := by
      rw [wrap_i64 (n := 9 * _) (by omega), wrap_i64 (n := 9 * _ + 7) (by omega), Int.tdiv_eq_ediv_of_nonneg (by omega), wrap_i64 (by omega)]; omega
    rw [e1, if_pos (by omega), if_pos (by omega), if_pos (by omega)]
    simp only [Int.toNat_natCast, List.length_replicate, if_true]
    have hl : ∀ x ∈ (256 :: b ++ [257] : List Int), 0 ≤ x ∧ x < 512 := fun x hx => by
      rcases List.mem_append.1 hx with hx | hx
      · rcases List.mem_cons.1 hx with rfl | hx
        · omega
        · have := hb x hx; omega
      · rw [List.mem_singleton] at hx; subst hx; omega
    obtain ⟨c, t1, t2, t3, t4⟩ := l6_2_spec b (256 :: b ++ [257]) (by simp; omega) hl 18446744073709551616 0 (List.replicate ((9 * (b.length + 2) + 7) / 8) 0) (by omega) (by simp; omega) (IsB.replicate _) (by simp; omega) (by simp; omega) (by rw [be_replicate]; simp [nine, cn])
    have t1' : loopN g6_2 o6_2 b6_2 18446744073709551616 (b, 0, 256 :: b ++ [257], List.replicate ((9 * (b.length + 2) + 7) / 8) 0, ()) = _ := t1
    rw [show l6_2 = loopN g6_2 o6_2 b6_2 18446744073709551616 from rfl, t1']
    simp only [Option.bind_some, Sum.elim_inl]
    rw [List.length_replicate] at t3 t4
    have hlen : (256 :: b ++ [257] : List Int).length = b.length + 2 := by simp
    rw [hlen] at t4
    have ecl : cl (nine (256 :: b ++ [257])) = 9 * (b.length + 2) := by rw [cl_nine, hlen]
    have hdec : dec 300 18446744073709551616 (be c) (8 * c.length) [] [] [] = (0, b) := by
      have hd := dec_plain 300 (8 * ((9 * (b.length + 2) + 7) / 8) - 9 * (b.length + 2)) 0 (Nat.two_pow_pos _) b 18446744073709551615 [] [] [] hb (by simp; omega) (by simp; omega) (by omega)
      have hf : Fit (nine (b ++ [257])) := fun y hy => by
        unfold nine at hy
        obtain ⟨z, hz, rfl⟩ := List.mem_map.1 hy
        have := hl z (List.mem_cons_of_mem _ hz)
        simp only []
        have : (2:Nat)^9 = 512 := rfl
        omega
      have hs := dec_step (most := 300) (K := 18446744073709551615) (v := 256) (n := 9) (ahead := []) (T := []) (out := []) hf (Nat.two_pow_pos (8 * ((9 * (b.length + 2) + 7) / 8) - 9 * (b.length + 2))) rfl
      rw [if_pos rfl, hd] at hs
      have e2 : (256, 9) :: nine (b ++ [257]) = nine (256 :: b ++ [257]) := rfl
      rw [e2, ecl] at hs
      rw [t4, t3]
      rw [show 8 * ((9 * (b.length + 2) + 7) / 8) = 9 * (b.length + 2) + (8 * ((9 * (b.length + 2) + 7) / 8) - 9 * (b.length + 2)) by omega]
      rw [show 9 * (b.length + 2) + (8 * ((9 * (b.length + 2) + 7) / 8) - 9 * (b.length + 2)) - 9 * (b.length + 2) = 8 * ((9 * (b.length + 2) + 7) / 8) - 9 * (b.length + 2) by omega]
      simpa using hs
    rw [show f10 (c, 300, ()) = some (0, b, ()) from by
      have := f10_eqn (b := c) (most := 300) t2 (by omega) (by omega)
      rw [hdec] at this
      exact this, awake_true]
    simp
end Go.Ev.Lzw
