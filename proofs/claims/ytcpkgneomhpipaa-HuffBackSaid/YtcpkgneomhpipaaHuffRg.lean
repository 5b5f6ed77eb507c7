/- Part of a proof about the given program: HuffRg. -/
import Derived.Test.YtcpkgneomhpipaaHuffRe
import Derived.Test.YtcpkgneomhpipaaHuffRAll
import Derived.Test.YtcpkgneomhpipaaHuffAll
import Derived.Test.YtcpkgneomhpipaaHuffAwake
namespace Go.Ev.Huff

theorem f35_bit {b : List Int} (hbl : b.length ≤ 1000) {L : List Bool} (hL : L.length = 8 * b.length) (hn : nb L = valB b) {p : Nat} (hp : p ≤ 8 * b.length) :
    f35 (1, L, (p : Int), ()) = if p + 1 ≤ 8 * b.length then some (((bitsAt b p 1 : Nat) : Int), 0, L, ((p + 1 : Nat) : Int), ()) else some (0, 6, L, (p : Int), ()) := by
  unfold f35
  dsimp only
  rw [if_neg (show ¬ (decide ((1 : Int) < 0) = true) by decide), if_neg (show ¬ (decide ((1 : Int) > 24) = true) by decide), wrap_i64 (n := ((L.length : Nat) : Int) - (p : Int)) (by omega)]
  by_cases c : p + 1 ≤ 8 * b.length
  · have w1 : IntKind.wrap .i64 ((p : Int) + 1) = ((p + 1 : Nat) : Int) := by rw [wrap_i64 (by omega)]; omega
    have w2 : IntKind.wrap .i64 (((p + 1 : Nat) : Int) - 1) = (p : Int) := by rw [wrap_i64 (by omega)]; omega
    have e : nb (List.drop p (List.take (p + 1) L)) = bitsAt b p 1 := by
      rw [List.drop_take, show p + 1 - p = 1 by omega, nb_take _ (by rw [List.length_drop]; omega), nb_drop _ (by omega), hn]
      rfl
    rw [if_neg (by rw [decide_eq_true_eq]; omega), w1, w2, if_pos (by omega), if_pos (by omega), if_pos (by omega), if_pos (by omega), Int.toNat_natCast, Int.toNat_natCast, f38_spec _ (by rw [List.length_drop, List.length_take]; omega), Option.bind_some, if_pos c, e]
  · rw [if_pos (by rw [decide_eq_true_eq]; omega), if_neg c]
theorem l25_2_spec {l : List Int} (hl : l.length ≤ 320) {n v : Nat} (hn : 1 ≤ n) (L : List Bool) (at' : Int) : ∀ (k j : Nat), l.length < j + k → j ≤ l.length → (∀ i, i < j → ¬ (l.getD i 0 = (n : Int) ∧ code l i = (v : Int))) →
    loopN g25_2 o25_2 b25_2 k (l, codes l, (v : Int), (n : Int), (j : Int), L, at', ()) = (match look l n v with | some x => some (.inr (.inl (x, 0, L, at', ()))) | none => some (.inl (l, codes l, (v : Int), (n : Int), L, at', ()))) := by
  intro k
  induction k with
  | zero => intro j h1 h2; omega
  | succ k ih =>
    intro j h1 h2 h3
    rw [loopN_succ]
    generalize hLL : loopN g25_2 o25_2 b25_2 k = LL at ih ⊢
    unfold b25_2
    dsimp only
    have hcl : (codes l).length = l.length := tab_length ..
    rcases Nat.lt_or_ge j l.length with h | h
    · have hc : (codes l).getD j 0 = code l j := tab_get h _
      have w1 : IntKind.wrap .i64 ((j : Int) + 1) = ((j + 1 : Nat) : Int) := by rw [wrap_i64 (by omega)]; omega
      rw [if_pos (by rw [decide_eq_true_eq]; omega), if_pos (by omega), if_pos (by omega), Int.toNat_natCast, w1]
      by_cases c1 : l.getD j 0 = (n : Int)
      · rw [if_pos (beq_iff_eq.2 c1), if_pos (by omega), if_pos (by omega), hc]
        by_cases c2 : code l j = (v : Int)
        · rw [if_pos (beq_iff_eq.2 c2), look_at hn h c1 c2]
          rfl
        · rw [if_neg (fun e => c2 (beq_iff_eq.1 e)), Option.bind_some, Sum.elim_inl]
          refine ih (j + 1) (by omega) (by omega) fun i hi => ?_
          by_cases e : i = j
          · rw [e]; exact fun q => c2 q.2
          · exact h3 i (by omega)
      · rw [if_neg (fun e => c1 (beq_iff_eq.1 e)), Option.bind_some, Sum.elim_inl]
        refine ih (j + 1) (by omega) (by omega) fun i hi => ?_
        by_cases e : i = j
        · rw [e]; exact fun q => c1 q.1
        · exact h3 i (by omega)
    · rw [if_neg (by rw [decide_eq_true_eq]; omega)]
      cases hk : look l n v with
      | none => rfl
      | some x =>
        obtain ⟨s, s1, s2, s3, s4⟩ := look_some hn hk
        exact absurd ⟨s3, s4⟩ (h3 s (by omega))
theorem l25_1_spec {l : List Int} (hl : l.length ≤ 320) {b : List Int} (hbl : b.length ≤ 1000) {L : List Bool} (hL : L.length = 8 * b.length) (hnb : nb L = valB b) : ∀ (r k n p v : Nat), n + r = 16 → 1 ≤ n → r < k → p ≤ 8 * b.length → v < 2 ^ (n - 1) →
    loopN g25_1 o25_1 b25_1 k (l, codes l, (v : Int), (n : Int), L, (p : Int), ()) =
      (match readR l b r n p v with
      | (none, p') => some (.inl (L, (p' : Int), ()))
      | (some (s, e), p') => some (.inr (.inl (s, e, L, (p' : Int), ())))) := by
  intro r
  induction r with
  | zero =>
    intro k n p v h1 h0 h2 h3 h4
    obtain ⟨k, rfl⟩ : ∃ j, k = j + 1 := ⟨k - 1, by omega⟩
    rw [loopN_succ]
    generalize loopN g25_1 o25_1 b25_1 k = LL
    unfold b25_1
    dsimp only
    rw [if_neg (by rw [decide_eq_true_eq]; omega)]
    rfl
  | succ r ih =>
    intro k n p v h1 h0 h2 h3 h4
    obtain ⟨k, rfl⟩ : ∃ j, k = j + 1 := ⟨k - 1, by omega⟩
    have ih := ih k
    rw [loopN_succ]
    generalize hLL : loopN g25_1 o25_1 b25_1 k = LL at ih ⊢
    unfold b25_1 readR
    dsimp only
    have hp15 : (2 : Nat) ^ (n - 1) ≤ 32768 := by
      have : (2 : Nat) ^ (n - 1) ≤ 2 ^ 15 := Nat.pow_le_pow_right (by omega) (by omega)
      simpa using this
    rw [if_pos (by rw [decide_eq_true_eq]; omega), f35_bit hbl hL hnb h3]
    by_cases c : p + 1 ≤ 8 * b.length
    · have hx := bitsAt_lt b p 1
      generalize bitsAt b p 1 = x at hx ⊢
      rw [if_pos c, if_pos c, Option.bind_some]
      dsimp only
      have w1 : IntKind.wrap .i64 (2 * (v : Int)) = ((2 * v : Nat) : Int) := by rw [wrap_i64 (by omega)]; omega
      have w2 : IntKind.wrap .i64 (((2 * v : Nat) : Int) + (x : Int)) = ((2 * v + x : Nat) : Int) := by rw [wrap_i64 (by omega)]; omega
      have hr := l25_2_spec hl (n := n) (v := 2 * v + x) h0 L (((p + 1 : Nat)) : Int) 18446744073709551616 0 (by omega) (by omega) (fun i hi => by omega)
      have hr' : loopN g25_2 o25_2 b25_2 18446744073709551616 (l, codes l, ((2 * v + x : Nat) : Int), (n : Int), 0, L, ((p + 1 : Nat) : Int), ()) = _ := hr
      rw [if_neg (by decide), w1, w2, show l25_2 = loopN g25_2 o25_2 b25_2 18446744073709551616 from rfl, hr']
      cases look l n (2 * v + x) with
      | some s => rfl
      | none =>
        dsimp only
        rw [Option.bind_some, Sum.elim_inl, Option.bind_some, Sum.elim_inl, show IntKind.wrap .i64 ((n : Int) + 1) = ((n + 1 : Nat) : Int) by rw [wrap_i64 (by omega)]; omega]
        refine ih (n + 1) (p + 1) (2 * v + x) (by omega) (by omega) (by omega) c ?_
        have e : n + 1 - 1 = n - 1 + 1 := by omega
        rw [e, Nat.pow_succ]
        omega
    · rw [if_neg c, if_neg c, Option.bind_some]
      rfl
theorem f25_eqn {l : List Int} (hk : err l = 0) {b : List Int} (hbl : b.length ≤ 1000) {L : List Bool} (hL : L.length = 8 * b.length) (hnb : nb L = valB b) {p : Nat} (hp : p ≤ 8 * b.length) :
    f25 (l, L, (p : Int), ()) = some ((readH l b p).1, (readH l b p).2.1, L, (((readH l b p).2.2 : Nat) : Int), ()) := by
  obtain ⟨hl, _, _⟩ := err_ok hk
  have h := l25_1_spec hl hbl hL hnb 15 18446744073709551616 1 p 0 rfl (by omega) (by omega) hp (by decide)
  have h' : loopN g25_1 o25_1 b25_1 18446744073709551616 (l, codes l, 0, 1, L, (p : Int), ()) = _ := h
  unfold f25 readH
  dsimp only
  rw [f10_eqn, Option.bind_some, if_pos hk]
  dsimp only
  rw [List.drop_zero, List.take_length, show l25_1 = loopN g25_1 o25_1 b25_1 18446744073709551616 from rfl, h']
  generalize readR l b 15 1 p 0 = q
  obtain ⟨o, p'⟩ := q
  cases o with
  | none => rfl
  | some o =>
    obtain ⟨s, e⟩ := o
    rfl
/-! # The statement -/
theorem l5_2_spec {l : List Int} (hk : err l = 0) {b : List Int} (hb : IsB b) (hbl : b.length ≤ 60) {L : List Bool} (hL : L.length = 8 * b.length) (hnb : nb L = valB b) : ∀ (k i p : Nat), 8 * b.length < i + k → i ≤ p → p ≤ 8 * b.length →
    loopN g5_2 o5_2 b5_2 k (l, b, (i : Int), C l, l, codes l, b, ((ra p : Nat) : Int), ((rw' b p : Nat) : Int), ((rm p : Nat) : Int), L, (p : Int), sgs l 15, ()) = some (.inr (.inl (true, ()))) := by
  obtain ⟨hl, _, _⟩ := err_ok hk
  intro k
  induction k with
  | zero => intro i p h1 h2; omega
  | succ k ih =>
    intro i p h1 h2 h3
    rw [loopN_succ]
    generalize hLL : loopN g5_2 o5_2 b5_2 k = LL at ih ⊢
    unfold b5_2
    dsimp only
    have hle := readH_le l b h3
    have hlt := readH_lt l b p
    have hne : ∀ x : Int, ¬ ((x != x) = true) := fun x => by rw [bne_self_eq_false]; decide
    rw [wrap_i64 (n := 8 * ((b.length : Nat) : Int)) (by omega), if_pos (by rw [decide_eq_true_eq]; omega), if_pos rfl, f24_b_eqn hl hb (by omega) l (codes l) h3, Option.bind_some]
    dsimp only
    rw [f25_eqn hk (by omega) hL hnb h3, Option.bind_some]
    dsimp only
    rw [if_neg (hne _), if_neg (hne _), f25_left (by omega) hle.2, Option.bind_some]
    dsimp only
    have w1 : IntKind.wrap .i64 (((L.length : Nat) : Int) - (((readH l b p).2.2 : Nat) : Int)) = ((8 * b.length - (readH l b p).2.2 : Nat) : Int) := by rw [wrap_i64 (by omega)]; omega
    rw [w1, if_neg (hne _)]
    by_cases c : (readH l b p).2.1 = 6
    · rw [if_pos (beq_iff_eq.2 c), awake_true]
      rfl
    · rw [if_neg (fun e => c (beq_iff_eq.1 e)), if_pos rfl, Option.bind_some, Sum.elim_inl, show IntKind.wrap .i64 ((i : Int) + 1) = ((i + 1 : Nat) : Int) by rw [wrap_i64 (by omega)]; omega]
      exact ih (i + 1) _ (by omega) (by omega) hle.2
theorem f22_pos {b : List Int} (hl : b.length ≤ 100000) : f22 (b, ()) = some (b, ((ra 0 : Nat) : Int), ((rw' b 0 : Nat) : Int), ((rm 0 : Nat) : Int), ()) := by
  rw [f22_eqn (by omega)]
  have e1 : ra 0 = 0 := rfl
  have e2 : rm 0 = 0 := rfl
  have e3 : rw' b 0 = 0 := by unfold rw'; rw [e2, Nat.pow_zero, Nat.mod_one]
  rw [e1, e2, e3]
  rfl
theorem huffReads_pure (l : List Int) {b : List Int} (hb : IsB b) : f5 (l, b, ()) = some (true, ()) := by
  unfold f5
  dsimp only
  by_cases c1 : 400 < l.length
  · rw [if_pos (by rw [decide_eq_true_eq]; omega)]
  · rw [if_neg (by rw [decide_eq_true_eq]; omega)]
    by_cases c2 : 60 < b.length
    · rw [if_pos (by rw [decide_eq_true_eq]; omega)]
    · rw [if_neg (by rw [decide_eq_true_eq]; omega)]
      unfold b5_1
      dsimp only
      rw [f11_eqn]
      by_cases c : errM l = 0
      · have hk : err l = 0 := by
          by_cases e : err l = 0
          · exact e
          · unfold errM at c; rw [if_neg e] at c; exact absurd c e
        obtain ⟨L, q1, q2, q3⟩ := f23_spec b hb (by omega)
        have hr := l5_2_spec hk hb (by omega) q2 q3 18446744073709551616 0 0 (by omega) (Nat.le_refl _) (by omega)
        have hr' : loopN g5_2 o5_2 b5_2 18446744073709551616 (l, b, 0, C l, l, codes l, b, ((ra 0 : Nat) : Int), ((rw' b 0 : Nat) : Int), ((rm 0 : Nat) : Int), L, 0, sgs l 15, ()) = _ := hr
        rw [if_pos c, Option.bind_some, Sum.elim_inr]
        dsimp only
        rw [if_pos rfl, Option.bind_some, Sum.elim_inr, Sum.elim_inl]
        dsimp only
        rw [f22_pos (by omega), Option.bind_some]
        dsimp only
        rw [if_neg (by decide), q1, Option.bind_some, if_pos rfl, List.drop_zero, List.take_length, show l5_2 = loopN g5_2 o5_2 b5_2 18446744073709551616 from rfl, hr', Option.bind_some]
        rfl
      · rw [if_neg c, Option.bind_some, Sum.elim_inl, Option.bind_some, Sum.elim_inl]
        dsimp only
        rw [f22_pos (by omega), Option.bind_some, if_pos (by rw [bne_iff_ne]; exact c), awake_true, Option.bind_some, if_pos rfl, f14_eqn, Option.bind_some, beq_self_eq_true]
end Go.Ev.Huff
