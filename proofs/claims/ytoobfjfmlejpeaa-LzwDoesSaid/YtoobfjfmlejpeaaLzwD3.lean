/- Part of a proof about the given program: LzwD3. -/
import Derived.Test.YtoobfjfmlejpeaaLzwD2
namespace Go.Ev.Lzw

def bitsL : List (Nat × Nat) → List Bool
  | [] => []
  | x :: l => bitsM x.1 x.2 ++ bitsL l
theorem bitsL_length : ∀ l, (bitsL l).length = cl l
  | [] => rfl
  | x :: l => by simp [bitsL, cl, bitsM_length, bitsL_length l]
theorem bitsL_append : ∀ a b, bitsL (a ++ b) = bitsL a ++ bitsL b
  | [], _ => rfl
  | x :: a, b => by simp [bitsL, bitsL_append a b]
theorem nm_bitsL : ∀ {l}, Fit l → nm (bitsL l) = cn l
  | [], _ => rfl
  | x :: l, h => by
    have h1 := h x (List.mem_cons_self ..)
    simp only [bitsL, cn, nm_append, nm_bitsM, bitsL_length, nm_bitsL (l := l) (fun y hy => h y (List.mem_cons_of_mem _ hy)), Nat.mod_eq_of_lt h1]

theorem f18_eqn (n : Nat) : f18 ((n : Int), ()) = some ((sz n : Int), ()) := f14_eqn n

theorem f17_at {T : List (List Int)} (hT : ∀ r ∈ T, IsB r) (hTl : T.length ≤ 100000) {s : List Int} (hb : IsB s) (hs : s ≠ []) {Ts : List ByteArray} (hTs : Ts = T.map bytesStr) :
    f17 (bytesStr s, Ts, ()) = some ((cd T s : Int), (lm T s : Int), ()) := by
  rw [hTs]; exact f17_eqn hT hTl hb hs

theorem b9_2_eqn (told : Nat) (ht : told ≤ 100000) (s : ByteArray) (many : Int) (l : List Bool) (Ts : List ByteArray) : b9_2 (((told - 1 : Nat) : Int), decide (0 < told), s, many, l, Ts, ()) = some (.inl ((told : Int), s, many, l, Ts, ())) := by
  unfold b9_2
  simp only [if_true]
  by_cases h : 0 < told
  · rw [if_pos (by simpa using h), wrap_i64 (by omega)]
    rw [show (((told - 1 : Nat) : Int) + 1) = (told : Int) by omega]
  · rw [if_neg (by simpa using h)]
    rw [show (told - 1) = told by omega]

theorem l9_1_spec : ∀ (k : Nat) (T : List (List Int)) (told : Nat) (s : List Int) (l : List Bool), s.length < k → Pc T → IsB s → s.length ≤ 1048576 → (s ≠ [] → T.length = told ∧ told ≤ 3836) → told ≤ 3837 → l.length + 24 * s.length ≤ 60000000 →
    ∃ (told' : Nat) (cs : List (Nat × Nat)), loopN g9_1 o9_1 b9_1 k (((told - 1 : Nat) : Int), decide (0 < told), bytesStr s, l, T.map bytesStr, ()) = some (.inl (((told' - 1 : Nat) : Int), l ++ bitsL cs, ())) ∧
      enc k T told s = cs ++ [(257, sz (told' - 1))] ∧ cl cs ≤ 24 * s.length := by
  intro k
  induction k with
  | zero => intro T told s l h; omega
  | succ k ih =>
    intro T told s l hk hT hb hl hlen htold hL
    rw [loopN_succ]
    generalize hLo : loopN g9_1 o9_1 b9_1 k = Lo at ih ⊢
    unfold b9_1 enc
    simp only [if_true, str_nil, List.drop_zero, List.take_length]
    rw [str_beq hb IsB.nil]
    by_cases hs : s = []
    · subst hs
      rw [if_neg (by simp), if_pos rfl]
      exact ⟨told, [], by simp [bitsL], rfl, by simp [cl]⟩
    · have hpos : 0 < s.length := List.length_pos_iff.2 hs
      obtain ⟨m1, m2, m3, m4⟩ := lm_spec (T := T) hs
      obtain ⟨hTl, htold2⟩ := hlen hs
      rw [if_pos (by simpa using hs), if_neg hs]
      rw [f17_eqn (fun x hx => (hT x hx).1) (by omega) hb hs]
      simp only [Option.bind_some]
      rw [f18_eqn]
      simp only [Option.bind_some]
      have hcd := cd_lt (T := T) hb
      have hs1 := sz_le (told - 1)
      rw [f16b_eqn (by omega) (by omega) (by omega) (by omega)]
      simp only [Option.bind_some]
      rw [b9_2_eqn told (by omega)]
      simp only [Option.bind_some, Sum.elim_inl, bytesStr_size, Int.toNat_natCast, str_cut, one_of, List.drop_zero, List.take_length]
      have hw1 : IntKind.wrap IntKind.i64 ((lm T s : Int) + 1) = ((lm T s + 1 : Nat) : Int) := by rw [wrap_i64 (by omega)]; omega
      rw [hw1]
      simp only [Int.toNat_natCast]
      have hlb := bitsM_length (cd T s) (sz (told - 1))
      by_cases hlt : lm T s < s.length
      · rw [if_pos (by simp; omega), if_pos hlt, if_pos (by omega), if_pos (by omega), if_pos (by simp; omega)]
        by_cases hfull : T.length + 1 = 3837
        · rw [if_pos (by simp; omega), if_pos hfull, f18_eqn]
          simp only [Option.bind_some]
          have hs2 := sz_le told
          have q := f16b_eqn (v := 256) (n := sz told) (by omega) (by omega) (by omega) (l := l ++ bitsM (cd T s) (sz (told - 1))) (by rw [List.length_append, hlb]; omega)
          have q' : f16_b (256, (sz told : Int), l ++ bitsM (cd T s) (sz (told - 1)), ()) = _ := q
          rw [q']
          simp only [Option.bind_some]
          rw [if_pos (by omega), if_pos (by omega)]
          simp only [Option.bind_some, Sum.elim_inl]
          have hlb2 := bitsM_length 256 (sz told)
          obtain ⟨told', cs, t1, t2, t3⟩ := ih [] 0 (s.drop (lm T s)) (l ++ bitsM (cd T s) (sz (told - 1)) ++ bitsM 256 (sz told)) (by simp; omega) (fun r hr => by cases hr) (hb.drop _) (by simp; omega) (fun _ => ⟨rfl, by omega⟩) (by omega) (by simp only [List.length_append, hlb, hlb2, List.length_drop]; omega)
          refine ⟨told', (cd T s, sz (told - 1)) :: (256, sz told) :: cs, ?_, ?_, ?_⟩
          · have e : l ++ bitsL ((cd T s, sz (told - 1)) :: (256, sz told) :: cs) = l ++ bitsM (cd T s) (sz (told - 1)) ++ bitsM 256 (sz told) ++ bitsL cs := by simp [bitsL]
            rw [e]
            exact t1
          · rw [t2]; rfl
          · have e1 : cl ((cd T s, sz (told - 1)) :: (256, sz told) :: cs) = sz (told - 1) + (sz told + cl cs) := rfl
            rw [e1]
            simp only [List.length_drop] at t3
            omega
        · rw [if_neg (by simp; omega), if_neg hfull, if_pos (by omega), if_pos (by omega)]
          simp only [Option.bind_some, Sum.elim_inl]
          obtain ⟨told', cs, t1, t2, t3⟩ := ih (T ++ [s.take (lm T s + 1)]) (told + 1) (s.drop (lm T s)) (l ++ bitsM (cd T s) (sz (told - 1))) (by simp; omega) (hT.add hb hlt hs) (hb.drop _) (by simp; omega) (fun _ => ⟨by simp; omega, by omega⟩) (by omega) (by simp only [List.length_append, hlb, List.length_drop]; omega)
          refine ⟨told', (cd T s, sz (told - 1)) :: cs, ?_, ?_, ?_⟩
          · have e : l ++ bitsL ((cd T s, sz (told - 1)) :: cs) = l ++ bitsM (cd T s) (sz (told - 1)) ++ bitsL cs := by simp [bitsL]
            rw [e]
            rw [List.map_append, Nat.add_sub_cancel, decide_eq_true (by omega : 0 < told + 1)] at t1
            exact t1
          · rw [t2]; rfl
          · have e1 : cl ((cd T s, sz (told - 1)) :: cs) = sz (told - 1) + cl cs := rfl
            rw [e1]
            simp only [List.length_drop] at t3
            omega
      · rw [if_neg (by simp; omega), if_neg hlt, if_pos (by omega), if_pos (by omega)]
        simp only [Option.bind_some, Sum.elim_inl]
        have hdrop : s.drop (lm T s) = [] := by apply List.eq_nil_of_length_eq_zero; simp; omega
        obtain ⟨told', cs, t1, t2, t3⟩ := ih T (told + 1) [] (l ++ bitsM (cd T s) (sz (told - 1))) (by simp; omega) hT IsB.nil (by simp) (fun h => absurd rfl h) (by omega) (by simp only [List.length_append, hlb, List.length_nil]; omega)
        refine ⟨told', (cd T s, sz (told - 1)) :: cs, ?_, ?_, ?_⟩
        · have e : l ++ bitsL ((cd T s, sz (told - 1)) :: cs) = l ++ bitsM (cd T s) (sz (told - 1)) ++ bitsL cs := by simp [bitsL]
          rw [e, hdrop]
          rw [Nat.add_sub_cancel, decide_eq_true (by omega : 0 < told + 1)] at t1
          exact t1
        · rw [hdrop, t2]; rfl
        · have e1 : cl ((cd T s, sz (told - 1)) :: cs) = sz (told - 1) + cl cs := rfl
          rw [e1]
          simp only [List.length_nil] at t3
          omega

/-- The reference's bytes are the program's. -/
theorem f9_eqn {s : List Int} (hb : IsB s) (hl : s.length ≤ 1048576) {B : List Int} (e2 : IsB B) (e3 : Fit (codes s)) (e4 : cl (codes s) ≤ 24 * s.length + 21) (e5 : B.length = (cl (codes s) + 7) / 8) (e6 : be B = cn (codes s) * 2 ^ ((8 - cl (codes s) % 8) % 8)) :
    f9 (s, ()) = some (0, B, ()) := by
  have p := f16_eqn (v := 256) (n := 9) (by omega) (by omega) (by omega)
  have p' : f16 (256, 9, ()) = _ := p
  have hl9 := bitsM_length 256 9
  obtain ⟨told', cs, t1, t2, t3⟩ := l9_1_spec 18446744073709551616 [] 0 s (bitsM 256 9) (by omega) (fun r hr => by cases hr) hb hl (fun _ => ⟨rfl, by omega⟩) (by omega) (by omega)
  have hs := sz_le (told' - 1)
  have q := f16b_eqn (v := 257) (n := sz (told' - 1)) (by omega) (by omega) (by omega) (l := bitsM 256 9 ++ bitsL cs) (by rw [List.length_append, hl9, bitsL_length]; omega)
  have q' : f16_b (257, (sz (told' - 1) : Int), bitsM 256 9 ++ bitsL cs, ()) = _ := q
  have hc : codes s = (256, 9) :: (cs ++ [(257, sz (told' - 1))]) := by unfold codes; rw [t2]
  have hall : bitsM 256 9 ++ bitsL cs ++ bitsM 257 (sz (told' - 1)) = bitsL (codes s) := by
    rw [hc]
    simp [bitsL, bitsL_append]
  rw [hall] at q'
  obtain ⟨B', r1, r2, r3, r4⟩ := f19_eqn (bitsL (codes s)) (by rw [bitsL_length]; omega)
  have hB : B' = B := by
    refine be_inj r2 e2 (by rw [r3, e5, bitsL_length]) ?_
    rw [r4, e6, nm_bitsL e3, r3, bitsL_length]
    congr 2
    omega
  unfold f9
  simp only [if_true, List.drop_zero, List.take_length]
  rw [if_neg (by simp; omega), p']
  simp only [Option.bind_some]
  have t1' : loopN g9_1 o9_1 b9_1 18446744073709551616 (0, false, ByteArray.mk (List.toArray (List.map (fun y2 => UInt8.ofNat (Int.toNat y2)) s)), bitsM 256 9, [], ()) = _ := t1
  rw [show l9_1 = loopN g9_1 o9_1 b9_1 18446744073709551616 from rfl, t1']
  simp only [Option.bind_some, Sum.elim_inl]
  rw [f18_eqn]
  simp only [Option.bind_some]
  rw [q']
  simp only [Option.bind_some]
  rw [r1, hB]
  rfl
end Go.Ev.Lzw
