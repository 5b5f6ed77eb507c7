/- Part of a proof about the given program: HuffPuts. -/
import Derived.Test.YtcpkgneomhpipaaHuffP
namespace Go.Ev.Huff

theorem b4_3_eqn (x1 x2 : List Int) (i : Int) {wd : List Bool} {e : Int} (h : (wd = [] ∧ e = 8) ∨ (wd ≠ [] ∧ e = 0)) (x6 x7 x8 : List Int) (w m : Int) (all : List Bool) (sg bs : List Int) :
    b4_3 (x1, x2, i, wd, e, x6, x7, x8, w, m, all, sg, bs, ()) = some (.inl (x1, x2, i, wd, false, x6, x7, x8, w, m, all, sg, bs, ())) := by
  unfold b4_3
  dsimp only
  rcases h with ⟨h, rfl⟩ | ⟨h, rfl⟩
  · subst h
    rw [if_pos (by rfl), if_neg (by decide), if_neg (show ¬ (decide ((((([] : List Bool).length : Nat) : Int)) > 0) = true) by decide), if_pos rfl, if_pos rfl, if_pos rfl]
  · have hp : 0 < wd.length := List.length_pos_iff.2 h
    rw [if_neg (by rw [beq_iff_eq]; omega), if_pos (by rw [decide_eq_true_eq]; omega), if_pos rfl, if_pos rfl, if_pos rfl]
    rfl
def wordsOf (l signs : List Int) : List Bool := signs.flatMap (word l)
theorem wordsOf_le {l : List Int} (hk : Ok l) : ∀ signs : List Int, (wordsOf l signs).length ≤ 15 * signs.length
  | [] => Nat.le_refl _
  | s :: signs => by
    have h := wordsOf_le hk signs
    have h1 := word_length_le hk s
    unfold wordsOf at h ⊢
    rw [List.flatMap_cons, List.length_append, List.length_cons]
    omega
theorem l4_2_spec {l : List Int} (he : err l = 0) {signs : List Int} (hs : signs.length ≤ 60) : ∀ (k i w m : Nat) (bs : List Int) (all : List Bool), signs.length < i + k → i ≤ signs.length → Wr all w m bs → all.length ≤ 15 * i →
    ∃ (w' m' : Nat) (bs' : List Int), loopN g4_2 o4_2 b4_2 k (l, signs, (i : Int), C l, l, codes l, (w : Int), (m : Int), all, sgs l 15, bs, ()) = some (.inl ((w' : Int), (m' : Int), all ++ wordsOf l (signs.drop i), bs', ())) ∧ Wr (all ++ wordsOf l (signs.drop i)) w' m' bs' := by
  obtain ⟨hl, hk, _⟩ := err_ok he
  intro k
  induction k with
  | zero => intro i w m bs all h1 h2; omega
  | succ k ih =>
    intro i w m bs all h1 h2 h3 h4
    rw [loopN_succ]
    generalize hLL : loopN g4_2 o4_2 b4_2 k = LL at ih ⊢
    unfold b4_2
    dsimp only
    rcases Nat.lt_or_ge i signs.length with h | h
    · rw [drop_getD 0 h, if_pos (by rw [decide_eq_true_eq]; omega), if_pos (by omega), if_pos (by omega), Int.toNat_natCast]
      generalize signs.getD i 0 = s
      obtain ⟨e, w', m', bs', p1, p2, p3⟩ := f19_eqn hl hk s (C l) (sgs l 15) (by omega) h3
      have hwl := word_length_le hk s
      have hsl := sgs_length l 15
      rw [f18_eqn he, Option.bind_some]
      dsimp only
      rw [if_pos (by omega), if_pos (by omega), if_pos rfl, if_pos rfl, p1, Option.bind_some]
      dsimp only
      rw [if_pos rfl, if_pos rfl, if_pos rfl, List.drop_zero, List.take_length, b4_3_eqn _ _ _ p3, Option.bind_some, Sum.elim_inl]
      dsimp only
      rw [List.drop_zero, List.take_length, if_neg (by decide), if_pos (by omega), if_pos rfl, if_pos rfl, if_pos rfl, Option.bind_some, Sum.elim_inl, show IntKind.wrap .i64 ((i : Int) + 1) = ((i + 1 : Nat) : Int) by rw [wrap_i64 (by omega)]; omega]
      obtain ⟨w2, m2, bs2, q1, q2⟩ := ih (i + 1) w' m' bs' (all ++ word l s) (by omega) (by omega) p2 (by rw [List.length_append]; omega)
      have e2 : wordsOf l (s :: signs.drop (i + 1)) = word l s ++ wordsOf l (signs.drop (i + 1)) := rfl
      rw [List.append_assoc, ← e2] at q1 q2
      exact ⟨w2, m2, bs2, q1, q2⟩
    · rw [List.drop_of_length_le h, if_neg (by rw [decide_eq_true_eq]; omega), if_pos rfl, if_pos rfl]
      have e2 : wordsOf l [] = [] := rfl
      rw [e2, List.append_nil]
      exact ⟨w, m, bs, rfl, h3⟩
theorem err_of {l : List Int} (c : errM l = 0) : err l = 0 := by
  by_cases e : err l = 0
  · exact e
  · unfold errM at c; rw [if_neg e] at c; exact absurd c e
theorem huffPuts_pure (l signs : List Int) : f4 (l, signs, ()) = some (true, ()) := by
  unfold f4
  dsimp only
  by_cases c1 : 400 < l.length
  · rw [if_pos (by rw [decide_eq_true_eq]; omega)]
  · rw [if_neg (by rw [decide_eq_true_eq]; omega)]
    by_cases c2 : 60 < signs.length
    · rw [if_pos (by rw [decide_eq_true_eq]; omega)]
    · rw [if_neg (by rw [decide_eq_true_eq]; omega)]
      unfold b4_1 f17
      dsimp only
      rw [f11_eqn]
      by_cases c : errM l = 0
      · have he := err_of c
        obtain ⟨hl, hk, _⟩ := err_ok he
        obtain ⟨w, m, bs, q1, q2⟩ := l4_2_spec he (signs := signs) (by omega) 18446744073709551616 0 0 0 [] [] (by omega) (by omega) Wr.nil (by decide)
        rw [List.drop_zero, List.nil_append] at q1 q2
        have q1' : loopN g4_2 o4_2 b4_2 18446744073709551616 (l, signs, 0, C l, l, codes l, 0, 0, [], sgs l 15, [], ()) = _ := q1
        have hwl := wordsOf_le hk signs
        obtain ⟨B, b1, b2, b3, b4⟩ := q2.bytes (by omega)
        obtain ⟨B', d1, d2, d3, d4⟩ := f21_spec (wordsOf l signs) (by omega)
        have hBB : B = B' := valB_inj b2 d2 (by rw [b3, d3]) (by rw [b4, d4])
        rw [if_pos c, Option.bind_some, Sum.elim_inr]
        dsimp only
        rw [if_pos rfl, Option.bind_some, Sum.elim_inr, Sum.elim_inl, Option.bind_some]
        dsimp only
        rw [if_neg (by decide), if_pos rfl, if_pos rfl, show l4_2 = loopN g4_2 o4_2 b4_2 18446744073709551616 from rfl, q1', Option.bind_some, Sum.elim_inl, awake_true, Option.bind_some]
        dsimp only
        rw [if_pos rfl, if_pos rfl, b1, Option.bind_some]
        dsimp only
        rw [List.drop_zero, List.take_length, d1, Option.bind_some, hBB]
        dsimp only
        rw [List.drop_zero, List.take_length, beq_self_eq_true]
      · rw [if_neg c, Option.bind_some, Sum.elim_inl, Option.bind_some, Sum.elim_inl, Option.bind_some]
        dsimp only
        rw [if_pos (by rw [bne_iff_ne]; exact c), awake_true, Option.bind_some, if_pos rfl]
end Go.Ev.Huff
