/- Part of a proof about the given program: LzwP. -/
import Derived.Test.YtoobfjfmlejpeaaLzwE
namespace Go.Ev.Lzw

theorem cd_of {T : List (List Int)} (hT : Pc T) {s : List Int} {n many : Nat} (h1 : 1 ≤ many) (h2 : many ≤ s.length) (h3 : (many = 1 ∧ n = (s.getD 0 0).toNat) ∨ (2 ≤ many ∧ ∃ i, ixOf (s.take many) T = some i ∧ n = 258 + i)) (h4 : many < s.length → s.take (many + 1) ∉ T) :
    lm T s = many ∧ cd T s = n := by
  have hl : lm T s = many := by
    refine lmF_of h1 ?_ s.length h2 (fun j h5 h6 => hT.far h1 (h4 (by omega)) j h5 h6)
    rcases h3 with h3 | ⟨_, i, h3, _⟩
    · exact .inl h3.1
    · exact .inr ⟨i, h3⟩
  refine ⟨hl, ?_⟩
  unfold cd
  rw [hl]
  rcases h3 with ⟨h3, h5⟩ | ⟨h3, i, h5, h6⟩
  · rw [if_pos h3, h5]
  · rw [if_neg (by omega), h5, h6]

theorem l8_2_spec {T : List (List Int)} (hT : Pc T) {s : List Int} (hb : IsB s) (hl : s.length ≤ 1048576) (told w m : Int) (bs : List Int) : ∀ (k n many : Nat), s.length < many + k → 1 ≤ many → many ≤ s.length →
    ((many = 1 ∧ n = (s.getD 0 0).toNat) ∨ (2 ≤ many ∧ ∃ i, ixOf (s.take many) T = some i ∧ n = 258 + i)) →
    loopN g8_2 o8_2 b8_2 k (s, told, (n : Int), (many : Int), w, m, mpF 0 T, bs, ()) = some (.inl (s, told, (cd T s : Int), (lm T s : Int), w, m, mpF 0 T, bs, ())) := by
  intro k
  induction k with
  | zero => intro n many h1 h2 h3; omega
  | succ k ih =>
    intro n many h1 h2 h3 h4
    rw [loopN_succ]
    generalize hL : loopN g8_2 o8_2 b8_2 k = L at ih ⊢
    unfold b8_2
    simp only [if_true]
    rcases Nat.lt_or_ge many s.length with h | h
    · rw [if_pos (by simp; omega), wrap_i64 (by omega), show ((many : Int) + 1) = ((many + 1 : Nat) : Int) by omega, if_pos (by omega), if_pos (by omega)]
      simp only [Int.toNat_natCast]
      have hk : (ByteArray.mk (List.toArray (List.map (fun y1 => UInt8.ofNat (Int.toNat y1)) (List.take (many + 1) s)))) = bytesStr (s.take (many + 1)) := rfl
      rw [hk, mget_mp (hb.take _) 0 (fun x hx => (hT x hx).1)]
      cases hi : ixOf (s.take (many + 1)) T with
      | none =>
        simp only [Option.map_none, Option.isSome_none, Bool.not_false, if_true]
        obtain ⟨e1, e2⟩ := cd_of hT h2 h3 h4 (fun _ => ixOf_none hi)
        rw [e1, e2]
        rfl
      | some i =>
        simp only [Option.map_some, Option.isSome_some, Bool.not_true, Option.getD_some]
        rw [if_neg (by simp)]
        simp only [Option.bind_some, Sum.elim_inl, Nat.add_zero]
        exact ih (258 + i) (many + 1) (by omega) (by omega) (by omega) (.inr ⟨by omega, i, hi, rfl⟩)
    · rw [if_neg (by simp; omega)]
      obtain ⟨e1, e2⟩ := cd_of hT h2 h3 h4 (fun h5 => by omega)
      rw [e1, e2]
      rfl

/-- The text's loop. -/
theorem l8_1_spec : ∀ (k : Nat) (T : List (List Int)) (told : Nat) (s : List Int) (w m : Nat) (bs : List Int) (L N : Nat), s.length < k → Pc T → IsB s → s.length ≤ 1048576 → Wr w m bs L N → (s ≠ [] → T.length = told ∧ told ≤ 3836) → told ≤ 3837 → L + 24 * s.length ≤ 60000000 →
    ∃ (told' w' m' : Nat) (bs' : List Int) (cs : List (Nat × Nat)), loopN g8_1 o8_1 b8_1 k (s, (told : Int), (w : Int), (m : Int), mpF 0 T, bs, ()) = some (.inl ((told' : Int), (w' : Int), (m' : Int), bs', ())) ∧
      enc k T told s = cs ++ [(257, sz (told' - 1))] ∧ Fit cs ∧ Wr w' m' bs' (L + cl cs) (N * 2 ^ cl cs + cn cs) ∧ told' ≤ 3837 ∧ cl cs ≤ 24 * s.length := by
  intro k
  induction k with
  | zero => intro T told s w m bs L N h; omega
  | succ k ih =>
    intro T told s w m bs L N hk hT hb hl hw hlen htold hL
    rw [loopN_succ]
    generalize hLo : loopN g8_1 o8_1 b8_1 k = Lo at ih ⊢
    unfold b8_1 enc
    simp only [if_true]
    by_cases hs : s = []
    · subst hs
      rw [if_neg (by simp), if_pos rfl]
      exact ⟨told, w, m, bs, [], rfl, rfl, (fun x hx => by cases hx), by simpa [cl, cn] using hw, htold, by simp [cl]⟩
    · have hpos : 0 < s.length := List.length_pos_iff.2 hs
      obtain ⟨m1, m2, m3, m4⟩ := lm_spec (T := T) hs
      obtain ⟨hTl, htold2⟩ := hlen hs
      rw [if_pos (by simp; omega), if_pos (by omega), if_neg hs]
      have h0 := hb.get 0
      rw [wrap_i64 (n := s.getD 0 0) (by omega)]
      have e0 : s.getD 0 0 = (((s.getD 0 0).toNat : Nat) : Int) := by omega
      rw [e0]
      have g := l8_2_spec hT hb hl (told : Int) (w : Int) (m : Int) bs 18446744073709551616 (s.getD 0 0).toNat 1 (by omega) (by omega) (by omega) (.inl ⟨rfl, rfl⟩)
      have g' : loopN g8_2 o8_2 b8_2 18446744073709551616 (s, (told : Int), (((s.getD 0 0).toNat : Nat) : Int), 1, (w : Int), (m : Int), mpF 0 T, bs, ()) = _ := g
      rw [show l8_2 = loopN g8_2 o8_2 b8_2 18446744073709551616 from rfl, g']
      simp only [Option.bind_some, Sum.elim_inl]
      rw [f14_max told (by omega)]
      simp only [Option.bind_some]
      have hcd := cd_lt (T := T) hb
      have hs1 := sz_le (told - 1)
      have hfit : cd T s < 2 ^ sz (told - 1) := by
        refine sz_fit (r := told - 1) ?_ (by omega)
        by_cases ht : told = 0
        · have : T = [] := List.eq_nil_of_length_eq_zero (by omega)
          have := hcd.2 this
          omega
        · omega
      obtain ⟨w1, m1', bs1, q1, q2⟩ := put_b hw (n := sz (told - 1)) (v := cd T s) (by omega) hfit (by omega)
      rw [q1]
      simp only [Option.bind_some]
      by_cases hlt : lm T s < s.length
      · rw [if_pos (by simp; omega), if_pos hlt, wrap_i64 (n := ((lm T s : Nat) : Int) + 1) (by omega), show ((lm T s : Int) + 1) = ((lm T s + 1 : Nat) : Int) by omega, if_pos (by omega), if_pos (by omega)]
        simp only [Int.toNat_natCast]
        have hk2 : (ByteArray.mk (List.toArray (List.map (fun y1 => UInt8.ofNat (Int.toNat y1)) (List.take (lm T s + 1) s)))) = bytesStr (s.take (lm T s + 1)) := rfl
        have hnot := m4 (lm T s + 1) (by omega) (by omega)
        rw [hk2, mset_mp (hb.take _) _ 0 (fun x hx => (hT x hx).1) hnot, mpF_length, wrap_i64 (n := 258 + ((T.length : Nat) : Int)) (by omega)]
        have hmp : mpF 0 T ++ [(bytesStr (s.take (lm T s + 1)), 258 + ((T.length : Nat) : Int))] = mpF 0 (T ++ [s.take (lm T s + 1)]) := by
          rw [mpF_append]
          congr 3
        rw [hmp, mpF_length]
        simp only [List.length_append, List.length_cons, List.length_nil]
        by_cases hfull : T.length + 1 = 3837
        · rw [if_pos (by simp; omega), if_pos hfull, wrap_i64 (n := (told : Int) + 1) (by omega), wrap_i64 (by omega), show ((told : Int) + 1 - 1) = (told : Int) by omega, f14_eqn]
          simp only [Option.bind_some]
          have hs2 := sz_le told
          obtain ⟨w2, m2', bs2, r1, r2⟩ := put_b q2 (n := sz told) (v := 256) (by omega) (sz_fit (r := told) (by omega) (by omega)) (by omega)
          have r1' : f13_b (256, (sz told : Int), (w1 : Int), (m1' : Int), bs1, ()) = _ := r1
          rw [r1']
          simp only [Option.bind_some]
          rw [if_pos (by omega), if_pos (by omega)]
          simp only [Option.bind_some, Sum.elim_inl]
          obtain ⟨told', w', m', bs', cs, t1, t2, t3, t4, t5, t6⟩ := ih [] 0 (s.drop (lm T s)) w2 m2' bs2 _ _ (by simp; omega) (fun r hr => by cases hr) (hb.drop _) (by simp; omega) r2 (fun _ => ⟨rfl, by omega⟩) (by omega) (by simp; omega)
          refine ⟨told', w', m', bs', (cd T s, sz (told - 1)) :: (256, sz told) :: cs, t1, ?_, ?_, ?_, t5, ?_⟩
          · rw [t2]; rfl
          · intro x hx
            rcases List.mem_cons.1 hx with rfl | hx
            · exact hfit
            · rcases List.mem_cons.1 hx with rfl | hx
              · exact sz_fit (r := told) (by omega) (by omega)
              · exact t3 x hx
          · have e1 : cl ((cd T s, sz (told - 1)) :: (256, sz told) :: cs) = sz (told - 1) + (sz told + cl cs) := rfl
            have e2 : cn ((cd T s, sz (told - 1)) :: (256, sz told) :: cs) = cd T s * 2 ^ (sz told + cl cs) + (256 * 2 ^ cl cs + cn cs) := rfl
            rw [e1, e2]
            have hL' : L + (sz (told - 1) + (sz told + cl cs)) = L + sz (told - 1) + sz told + cl cs := by omega
            have hN : N * 2 ^ (sz (told - 1) + (sz told + cl cs)) + (cd T s * 2 ^ (sz told + cl cs) + (256 * 2 ^ cl cs + cn cs)) = ((N * 2 ^ sz (told - 1) + cd T s) * 2 ^ sz told + 256) * 2 ^ cl cs + cn cs := by
              simp only [Nat.pow_add, Nat.add_mul, Nat.mul_assoc, Nat.add_assoc]
            rw [hL', hN]
            exact t4
          · have e1 : cl ((cd T s, sz (told - 1)) :: (256, sz told) :: cs) = sz (told - 1) + (sz told + cl cs) := rfl
            rw [e1]
            simp only [List.length_drop] at t6
            omega
        · rw [if_neg (by simp; omega), if_neg hfull, if_pos (by omega), if_pos (by omega)]
          simp only [Option.bind_some, Sum.elim_inl]
          rw [wrap_i64 (by omega), show ((told : Int) + 1) = ((told + 1 : Nat) : Int) by omega]
          obtain ⟨told', w', m', bs', cs, t1, t2, t3, t4, t5, t6⟩ := ih (T ++ [s.take (lm T s + 1)]) (told + 1) (s.drop (lm T s)) w1 m1' bs1 _ _ (by simp; omega) (hT.add hb hlt hs) (hb.drop _) (by simp; omega) q2 (fun _ => ⟨by simp; omega, by omega⟩) (by omega) (by simp; omega)
          refine ⟨told', w', m', bs', (cd T s, sz (told - 1)) :: cs, t1, ?_, ?_, ?_, t5, ?_⟩
          · rw [t2]; rfl
          · intro x hx
            rcases List.mem_cons.1 hx with rfl | hx
            · exact hfit
            · exact t3 x hx
          · have e1 : cl ((cd T s, sz (told - 1)) :: cs) = sz (told - 1) + cl cs := rfl
            have e2 : cn ((cd T s, sz (told - 1)) :: cs) = cd T s * 2 ^ cl cs + cn cs := rfl
            rw [e1, e2]
            have hN : N * 2 ^ (sz (told - 1) + cl cs) + (cd T s * 2 ^ cl cs + cn cs) = (N * 2 ^ sz (told - 1) + cd T s) * 2 ^ cl cs + cn cs := by
              simp only [Nat.pow_add, Nat.add_mul, Nat.mul_assoc, Nat.add_assoc]
            rw [show L + (sz (told - 1) + cl cs) = L + sz (told - 1) + cl cs by omega, hN]
            exact t4
          · have e1 : cl ((cd T s, sz (told - 1)) :: cs) = sz (told - 1) + cl cs := rfl
            rw [e1]
            simp only [List.length_drop] at t6
            omega
      · rw [if_neg (by simp; omega), if_neg hlt, if_pos (by omega), if_pos (by omega)]
        simp only [Option.bind_some, Sum.elim_inl, Int.toNat_natCast]
        have hdrop : s.drop (lm T s) = [] := by apply List.eq_nil_of_length_eq_zero; simp; omega
        rw [hdrop, wrap_i64 (by omega), show ((told : Int) + 1) = ((told + 1 : Nat) : Int) by omega]
        obtain ⟨told', w', m', bs', cs, t1, t2, t3, t4, t5, t6⟩ := ih T (told + 1) [] w1 m1' bs1 _ _ (by simp; omega) hT IsB.nil (by simp) q2 (fun h => absurd rfl h) (by omega) (by simp; omega)
        refine ⟨told', w', m', bs', (cd T s, sz (told - 1)) :: cs, t1, ?_, ?_, ?_, t5, ?_⟩
        · rw [t2]; rfl
        · intro x hx
          rcases List.mem_cons.1 hx with rfl | hx
          · exact hfit
          · exact t3 x hx
        · have e1 : cl ((cd T s, sz (told - 1)) :: cs) = sz (told - 1) + cl cs := rfl
          have e2 : cn ((cd T s, sz (told - 1)) :: cs) = cd T s * 2 ^ cl cs + cn cs := rfl
          rw [e1, e2]
          have hN : N * 2 ^ (sz (told - 1) + cl cs) + (cd T s * 2 ^ cl cs + cn cs) = (N * 2 ^ sz (told - 1) + cd T s) * 2 ^ cl cs + cn cs := by
            simp only [Nat.pow_add, Nat.add_mul, Nat.mul_assoc, Nat.add_assoc]
          rw [show L + (sz (told - 1) + cl cs) = L + sz (told - 1) + cl cs by omega, hN]
          exact t4
        · have e1 : cl ((cd T s, sz (told - 1)) :: cs) = sz (told - 1) + cl cs := rfl
          rw [e1]
          simp only [List.length_nil] at t6
          omega

/-- All numbers of a text. -/
def codes (s : List Int) : List (Nat × Nat) := (256, 9) :: enc 18446744073709551616 [] 0 s

theorem f8_eqn {s : List Int} (hb : IsB s) (hl : s.length ≤ 1048576) : ∃ B : List Int, f8 (s, ()) = some (0, B, ()) ∧ IsB B ∧ Fit (codes s) ∧ cl (codes s) ≤ 24 * s.length + 21 ∧ B.length = (cl (codes s) + 7) / 8 ∧ be B = cn (codes s) * 2 ^ ((8 - cl (codes s) % 8) % 8) := by
  obtain ⟨w0, m0, bs0, p1, p2⟩ := put_n (v := 256) (n := 9) (by omega) (by decide)
  obtain ⟨told', w', m', bs', cs, t1, t2, t3, t4, t5, t6⟩ := l8_1_spec 18446744073709551616 [] 0 s w0 m0 bs0 9 256 (by omega) (fun r hr => by cases hr) hb hl p2 (fun _ => ⟨rfl, by omega⟩) (by omega) (by omega)
  have hs := sz_le (told' - 1)
  obtain ⟨w2, m2, bs2, q1, q2⟩ := put_b t4 (v := 257) (n := sz (told' - 1)) (by omega) (sz_fit (r := told' - 1) (by omega) (by omega)) (by omega)
  obtain ⟨w3, m3, B, r1, r2, r3, r4⟩ := done_b q2 (by omega)
  have hc : codes s = (256, 9) :: (cs ++ [(257, sz (told' - 1))]) := by unfold codes; rw [t2]
  have hcl : cl (codes s) = 9 + cl cs + sz (told' - 1) := by rw [hc]; simp only [cl, cl_append]; omega
  have hcn : cn (codes s) = (256 * 2 ^ cl cs + cn cs) * 2 ^ sz (told' - 1) + 257 := by
    rw [hc]
    simp only [cn, cn_append, cl, cl_append, Nat.pow_zero, Nat.mul_one, Nat.add_zero, Nat.pow_add, Nat.add_mul, Nat.mul_assoc, Nat.add_assoc]
  refine ⟨B, ?_, r2, ?_, by omega, by rw [r3, hcl], by rw [r4, hcl, hcn]⟩
  · unfold f8
    simp only [if_true]
    rw [if_neg (by simp; omega)]
    have p1' : f13 (256, 9, 0, 0, ()) = _ := p1
    rw [p1']
    simp only [Option.bind_some]
    have t1' : loopN g8_1 o8_1 b8_1 18446744073709551616 (s, 0, (w0 : Int), (m0 : Int), [], bs0, ()) = _ := t1
    rw [show l8_1 = loopN g8_1 o8_1 b8_1 18446744073709551616 from rfl, t1']
    simp only [Option.bind_some, Sum.elim_inl]
    rw [f14_max told' (by omega)]
    simp only [Option.bind_some]
    have q1' : f13_b (257, (sz (told' - 1) : Int), (w' : Int), (m' : Int), bs', ()) = _ := q1
    rw [q1']
    simp only [Option.bind_some]
    rw [r1]
    rfl
  · rw [hc]
    intro x hx
    rcases List.mem_cons.1 hx with rfl | hx
    · decide
    · rcases List.mem_append.1 hx with hx | hx
      · exact t3 x hx
      · rw [List.mem_singleton] at hx
        subst hx
        exact sz_fit (r := told' - 1) (by omega) (by omega)
end Go.Ev.Lzw
