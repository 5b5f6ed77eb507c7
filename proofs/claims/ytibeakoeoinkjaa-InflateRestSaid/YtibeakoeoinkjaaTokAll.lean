/- Part of a proof about the given program: TokAll. -/
import Derived.Test.YtibeakoeoinkjaaInflS
import Derived.Test.YtibeakoeoinkjaaItAll
import Derived.Test.YtibeakoeoinkjaaInflT
import Derived.KernelRfl
namespace Go.Ev.Inflate

/-! # A sign's length, a sign's back -/
def lenB (s : Nat) : Nat × Nat := if s = 285 then (258, 0) else if s < 265 then (s - 254, 0) else (3 + (4 + (s - 257) % 4) * 2 ^ ((s - 257) / 4 - 1), (s - 257) / 4 - 1)
def bkB (s : Nat) : Nat × Nat := if s < 4 then (1 + s, 0) else (1 + (2 + s % 2) * 2 ^ (s / 2 - 1), s / 2 - 1)
theorem f38_eqn {s : Nat} (h1 : 257 ≤ s) (h2 : s ≤ 285) : f38 ((s : Int), ()) = some (((lenB s).1 : Int), ((lenB s).2 : Int), ()) := by
  have h : s = 257 ∨ s = 258 ∨ s = 259 ∨ s = 260 ∨ s = 261 ∨ s = 262 ∨ s = 263 ∨ s = 264 ∨ s = 265 ∨ s = 266 ∨ s = 267 ∨ s = 268 ∨ s = 269 ∨ s = 270 ∨ s = 271 ∨ s = 272 ∨ s = 273 ∨ s = 274 ∨ s = 275 ∨ s = 276 ∨ s = 277 ∨ s = 278 ∨ s = 279 ∨ s = 280 ∨ s = 281 ∨ s = 282 ∨ s = 283 ∨ s = 284 ∨ s = 285 := by omega
  rcases h with rfl | rfl | rfl | rfl | rfl | rfl | rfl | rfl | rfl | rfl | rfl | rfl | rfl | rfl | rfl | rfl | rfl | rfl | rfl | rfl | rfl | rfl | rfl | rfl | rfl | rfl | rfl | rfl | rfl <;> rfl
theorem f39_eqn {s : Nat} (h2 : s < 30) : f39 ((s : Int), ()) = some (((bkB s).1 : Int), ((bkB s).2 : Int), ()) := by
  have h : s = 0 ∨ s = 1 ∨ s = 2 ∨ s = 3 ∨ s = 4 ∨ s = 5 ∨ s = 6 ∨ s = 7 ∨ s = 8 ∨ s = 9 ∨ s = 10 ∨ s = 11 ∨ s = 12 ∨ s = 13 ∨ s = 14 ∨ s = 15 ∨ s = 16 ∨ s = 17 ∨ s = 18 ∨ s = 19 ∨ s = 20 ∨ s = 21 ∨ s = 22 ∨ s = 23 ∨ s = 24 ∨ s = 25 ∨ s = 26 ∨ s = 27 ∨ s = 28 ∨ s = 29 := by omega
  rcases h with rfl | rfl | rfl | rfl | rfl | rfl | rfl | rfl | rfl | rfl | rfl | rfl | rfl | rfl | rfl | rfl | rfl | rfl | rfl | rfl | rfl | rfl | rfl | rfl | rfl | rfl | rfl | rfl | rfl | rfl <;> rfl
theorem lenB_lim {s : Nat} (h1 : 257 ≤ s) (h2 : s ≤ 285) : 3 ≤ (lenB s).1 ∧ (lenB s).1 + 2 ^ (lenB s).2 ≤ 259 ∧ (lenB s).2 ≤ 5 := by
  have h : s = 257 ∨ s = 258 ∨ s = 259 ∨ s = 260 ∨ s = 261 ∨ s = 262 ∨ s = 263 ∨ s = 264 ∨ s = 265 ∨ s = 266 ∨ s = 267 ∨ s = 268 ∨ s = 269 ∨ s = 270 ∨ s = 271 ∨ s = 272 ∨ s = 273 ∨ s = 274 ∨ s = 275 ∨ s = 276 ∨ s = 277 ∨ s = 278 ∨ s = 279 ∨ s = 280 ∨ s = 281 ∨ s = 282 ∨ s = 283 ∨ s = 284 ∨ s = 285 := by omega
  rcases h with rfl | rfl | rfl | rfl | rfl | rfl | rfl | rfl | rfl | rfl | rfl | rfl | rfl | rfl | rfl | rfl | rfl | rfl | rfl | rfl | rfl | rfl | rfl | rfl | rfl | rfl | rfl | rfl | rfl <;> decide
theorem bkB_lim {s : Nat} (h2 : s < 30) : 1 ≤ (bkB s).1 ∧ (bkB s).1 + 2 ^ (bkB s).2 ≤ 32769 ∧ (bkB s).2 ≤ 13 := by
  have h : s = 0 ∨ s = 1 ∨ s = 2 ∨ s = 3 ∨ s = 4 ∨ s = 5 ∨ s = 6 ∨ s = 7 ∨ s = 8 ∨ s = 9 ∨ s = 10 ∨ s = 11 ∨ s = 12 ∨ s = 13 ∨ s = 14 ∨ s = 15 ∨ s = 16 ∨ s = 17 ∨ s = 18 ∨ s = 19 ∨ s = 20 ∨ s = 21 ∨ s = 22 ∨ s = 23 ∨ s = 24 ∨ s = 25 ∨ s = 26 ∨ s = 27 ∨ s = 28 ∨ s = 29 := by omega
  rcases h with rfl | rfl | rfl | rfl | rfl | rfl | rfl | rfl | rfl | rfl | rfl | rfl | rfl | rfl | rfl | rfl | rfl | rfl | rfl | rfl | rfl | rfl | rfl | rfl | rfl | rfl | rfl | rfl | rfl | rfl <;> decide

/-! # A sign that is read is one of the row -/
theorem look_sign {l : List Int} {n v : Nat} {x : Int} (h : look l n v = some x) : ∃ s : Nat, s < l.length ∧ x = (s : Int) := by
  unfold look at h
  by_cases c : base l n ≤ v ∧ v - base l n < cnt l n
  · rw [if_pos c] at h
    obtain ⟨s, h1, h2, h3, h4⟩ := sgn_get l n l.length (Nat.le_refl _) (v - base l n) (by rw [List.take_length]; exact c.2)
    exact ⟨s, h1, by rw [← h2]; exact (Option.some.inj h).symm⟩
  · rw [if_neg c] at h; cases h
theorem readR_sign (l b : List Int) : ∀ (r n p v : Nat) (s e : Int) (p' : Nat), readR l b r n p v = (some (s, e), p') → (e = 0 ∧ ∃ k : Nat, k < l.length ∧ s = (k : Int)) ∨ (e = 6 ∧ s = 0)
  | 0, n, p, v, s, e, p', h => by cases h
  | r + 1, n, p, v, s, e, p', h => by
    unfold readR at h
    by_cases c : p + 1 ≤ 8 * b.length
    · rw [if_pos c] at h
      cases hk : look l n (2 * v + bitsAt b p 1) with
      | some x =>
        rw [hk] at h
        dsimp only at h
        injection h with h1 h2
        injection h1 with h1
        injection h1 with h1 h3
        subst h1 h3
        exact .inl ⟨rfl, look_sign hk⟩
      | none =>
        rw [hk] at h
        exact readR_sign l b r (n + 1) (p + 1) _ s e p' h
    · rw [if_neg c] at h
      injection h with h1 h2
      injection h1 with h1
      injection h1 with h1 h3
      exact .inr ⟨h3.symm, h1.symm⟩
theorem readH_sign (l b : List Int) (p : Nat) : (∃ k : Nat, k < l.length ∧ (readH l b p).1 = (k : Int) ∧ (readH l b p).2.1 = 0) ∨ (readH l b p).2.1 = 4 ∨ (readH l b p).2.1 = 6 := by
  unfold readH
  generalize hq : readR l b 15 1 p 0 = q
  obtain ⟨o, p'⟩ := q
  cases o with
  | none => exact .inr (.inl rfl)
  | some o =>
    obtain ⟨s, e⟩ := o
    rcases readR_sign l b 15 1 p 0 s e p' hq with ⟨h1, k, h2, h3⟩ | ⟨h1, h2⟩
    · exact .inl ⟨k, h2, h3, h1⟩
    · exact .inr (.inr h1)

/-! # What a block of signs does -/
/-- One sign: none is the end. -/
noncomputable def wordR (l1 l2 b : List Int) (p : Nat) : (Option Tok × Nat) ⊕ Int :=
  if (readH l1 b p).2.1 ≠ 0 then .inr (readH l1 b p).2.1
  else if (readH l1 b p).1 = 256 then .inl (none, (readH l1 b p).2.2)
  else if (readH l1 b p).1 > 285 then .inr 4
  else if (readH l1 b p).1 < 256 then .inl (some ((readH l1 b p).1, 0, 0), (readH l1 b p).2.2)
  else
    if 8 * b.length < (readH l1 b p).2.2 + (lenB (readH l1 b p).1.toNat).2 then .inr 6
    else if (readH l2 b ((readH l1 b p).2.2 + (lenB (readH l1 b p).1.toNat).2)).2.1 ≠ 0 then .inr (readH l2 b ((readH l1 b p).2.2 + (lenB (readH l1 b p).1.toNat).2)).2.1
    else if (readH l2 b ((readH l1 b p).2.2 + (lenB (readH l1 b p).1.toNat).2)).1 ≥ 30 then .inr 4
    else if 8 * b.length < (readH l2 b ((readH l1 b p).2.2 + (lenB (readH l1 b p).1.toNat).2)).2.2 + (bkB (readH l2 b ((readH l1 b p).2.2 + (lenB (readH l1 b p).1.toNat).2)).1.toNat).2 then .inr 6
    else .inl (some (0, (((lenB (readH l1 b p).1.toNat).1 + bitsAt b (readH l1 b p).2.2 (lenB (readH l1 b p).1.toNat).2 : Nat) : Int),
      (((bkB (readH l2 b ((readH l1 b p).2.2 + (lenB (readH l1 b p).1.toNat).2)).1.toNat).1 + bitsAt b (readH l2 b ((readH l1 b p).2.2 + (lenB (readH l1 b p).1.toNat).2)).2.2 (bkB (readH l2 b ((readH l1 b p).2.2 + (lenB (readH l1 b p).1.toNat).2)).1.toNat).2 : Nat) : Int)),
      (readH l2 b ((readH l1 b p).2.2 + (lenB (readH l1 b p).1.toNat).2)).2.2 + (bkB (readH l2 b ((readH l1 b p).2.2 + (lenB (readH l1 b p).1.toNat).2)).1.toNat).2)
def addR (most : Int) (t : Tok) (n : Nat) (T : List Tok) : (Nat × List Tok) ⊕ Int :=
  if t.2.2 > (n : Int) then .inr 4 else if (n : Int) + max t.2.1 1 > most then .inr 2 else .inl (n + max t.2.1.toNat 1, T ++ [t])
/-- So many bits are left, and so often it is gone round, at most. -/
def FU : Nat := 18446744073709551616
noncomputable def wordsR (l1 l2 b : List Int) (most : Int) : Nat → Nat → List Tok → Nat → (Nat × List Tok × Nat) ⊕ Int
  | 0, _, _, _ => .inr 6
  | k + 1, n, T, p => match wordR l1 l2 b p with
    | .inr e => .inr e
    | .inl (none, p') => .inl (n, T, p')
    | .inl (some t, p') => match addR most t n T with
      | .inr e => .inr e
      | .inl (n', T') => wordsR l1 l2 b most k n' T' p'
def ZW (l1 l2 b : List Int) (most : Int) (r : (Nat × List Tok × Nat) ⊕ Int) (z : go32_d.D) : Prop :=
  match r with
  | .inl (n, T, p) => z = (0, (n : Int), most, b, ((ra p : Nat) : Int), ((rw' b p : Nat) : Int), ((rm p : Nat) : Int), C l1, l1, codes l1, sgs l1 15, C l2, l2, codes l2, sgs l2 15, T, ()) ∧ p ≤ 8 * b.length ∧ T.length ≤ n ∧ (n : Int) ≤ most
  | .inr e => e ≠ 0 ∧ z.1 = e
theorem wordR_lt {l1 l2 b : List Int} {p : Nat} (hp : p ≤ 8 * b.length) {o : Option Tok} {p' : Nat} (h : wordR l1 l2 b p = .inl (o, p')) : p < p' ∧ p' ≤ 8 * b.length ∧ ∀ t, o = some t → isT t = true := by
  unfold wordR at h
  have h1 := readH_le l1 b hp
  have h2 := readH_lt l1 b p
  have h3 := readH_sign l1 b p
  generalize readH l1 b p = q1 at h h1 h2 h3
  obtain ⟨s, e, p1⟩ := q1
  dsimp only at h h1 h2 h3
  by_cases c1 : e ≠ 0
  · rw [if_pos c1] at h; cases h
  · rw [if_neg c1] at h
    by_cases c2 : s = 256
    · rw [if_pos c2] at h
      injection h with h; injection h with ha hb
      subst ha hb
      exact ⟨by omega, h1.2, fun t ht => by cases ht⟩
    · rw [if_neg c2] at h
      by_cases c3 : s > 285
      · rw [if_pos c3] at h; cases h
      · rw [if_neg c3] at h
        obtain ⟨k, hk1, rfl⟩ : ∃ k : Nat, k < l1.length ∧ s = (k : Int) := by
          rcases h3 with ⟨k, a1, a2, _⟩ | h3 | h3
          · exact ⟨k, a1, a2⟩
          · omega
          · omega
        by_cases c4 : (k : Int) < 256
        · rw [if_pos c4] at h
          injection h with h; injection h with ha hb
          subst ha hb
          refine ⟨by omega, h1.2, fun t ht => ?_⟩
          injection ht with ht
          subst ht
          rw [isT_iff]
          exact .inl ⟨rfl, rfl, by dsimp only; omega, by dsimp only; omega⟩
        · rw [if_neg c4] at h
          rw [Int.toNat_natCast] at h
          obtain ⟨L1, L2, L3⟩ := lenB_lim (s := k) (by omega) (by omega)
          generalize lenB k = lb at h L1 L2 L3
          obtain ⟨lb, lm⟩ := lb
          dsimp only at h L1 L2 L3
          by_cases c5 : 8 * b.length < p1 + lm
          · rw [if_pos c5] at h; cases h
          · rw [if_neg c5] at h
            have g1 := readH_le l2 b (p := p1 + lm) (by omega)
            have g3 := readH_sign l2 b (p1 + lm)
            generalize readH l2 b (p1 + lm) = q2 at h g1 g3
            obtain ⟨d, e2, p2⟩ := q2
            dsimp only at h g1 g3
            by_cases c6 : e2 ≠ 0
            · rw [if_pos c6] at h; cases h
            · rw [if_neg c6] at h
              by_cases c7 : d ≥ 30
              · rw [if_pos c7] at h; cases h
              · rw [if_neg c7] at h
                obtain ⟨j, hj1, rfl⟩ : ∃ k : Nat, k < l2.length ∧ d = (k : Int) := by
                  rcases g3 with ⟨k, a1, a2, _⟩ | g3 | g3
                  · exact ⟨k, a1, a2⟩
                  · omega
                  · omega
                rw [Int.toNat_natCast] at h
                obtain ⟨B1, B2, B3⟩ := bkB_lim (s := j) (by omega)
                generalize bkB j = bb at h B1 B2 B3
                obtain ⟨bb, bm⟩ := bb
                dsimp only at h B1 B2 B3
                by_cases c8 : 8 * b.length < p2 + bm
                · rw [if_pos c8] at h; cases h
                · rw [if_neg c8] at h
                  injection h with h; injection h with ha hb
                  subst ha hb
                  refine ⟨by omega, by omega, fun t ht => ?_⟩
                  injection ht with ht
                  subst ht
                  have x1 := bitsAt_lt b p1 lm
                  have x2 := bitsAt_lt b p2 bm
                  rw [isT_iff]
                  exact .inr ⟨rfl, by dsimp only; omega, by dsimp only; omega, by dsimp only; omega, by dsimp only; omega⟩
theorem wordR_err {l1 l2 b : List Int} {p : Nat} {e : Int} (h : wordR l1 l2 b p = .inr e) : e ≠ 0 := by
  unfold wordR at h
  generalize readH l1 b p = q1 at h
  obtain ⟨s, e1, p1⟩ := q1
  dsimp only at h
  generalize lenB s.toNat = lb at h
  obtain ⟨lb, lm⟩ := lb
  dsimp only at h
  generalize readH l2 b (p1 + lm) = q2 at h
  obtain ⟨d, e2, p2⟩ := q2
  dsimp only at h
  by_cases c1 : e1 ≠ 0
  · rw [if_pos c1] at h; injection h with h; subst h; exact c1
  · rw [if_neg c1] at h
    by_cases c2 : s = 256
    · rw [if_pos c2] at h; cases h
    · rw [if_neg c2] at h
      by_cases c3 : s > 285
      · rw [if_pos c3] at h; injection h with h; omega
      · rw [if_neg c3] at h
        by_cases c4 : s < 256
        · rw [if_pos c4] at h; cases h
        · rw [if_neg c4] at h
          by_cases c5 : 8 * b.length < p1 + lm
          · rw [if_pos c5] at h; injection h with h; omega
          · rw [if_neg c5] at h
            by_cases c6 : e2 ≠ 0
            · rw [if_pos c6] at h; injection h with h; subst h; exact c6
            · rw [if_neg c6] at h
              by_cases c7 : d ≥ 30
              · rw [if_pos c7] at h; injection h with h; omega
              · rw [if_neg c7] at h
                by_cases c8 : 8 * b.length < p2 + (bkB d.toNat).2
                · rw [if_pos c8] at h; injection h with h; omega
                · rw [if_neg c8] at h; cases h
theorem addR_inl {most : Int} {t : Tok} {n : Nat} {T : List Tok} {n' : Nat} {T' : List Tok} (h : addR most t n T = .inl (n', T')) : t.2.2 ≤ (n : Int) ∧ (n : Int) + max t.2.1 1 ≤ most ∧ n' = n + max t.2.1.toNat 1 ∧ T' = T ++ [t] := by
  unfold addR at h
  by_cases c1 : t.2.2 > (n : Int)
  · rw [if_pos c1] at h; cases h
  · rw [if_neg c1] at h
    by_cases c2 : (n : Int) + max t.2.1 1 > most
    · rw [if_pos c2] at h; cases h
    · rw [if_neg c2] at h
      injection h with h; injection h with h1 h2
      exact ⟨by omega, by omega, h1.symm, h2.symm⟩
theorem addR_inr {most : Int} {t : Tok} {n : Nat} {T : List Tok} {e : Int} (h : addR most t n T = .inr e) : e ≠ 0 := by
  unfold addR at h
  by_cases c1 : t.2.2 > (n : Int)
  · rw [if_pos c1] at h; injection h with h; omega
  · rw [if_neg c1] at h
    by_cases c2 : (n : Int) + max t.2.1 1 > most
    · rw [if_pos c2] at h; injection h with h; omega
    · rw [if_neg c2] at h; cases h
end Go.Ev.Inflate
namespace Go.Ev.Inflate

theorem l32_d_1_spec {l1 l2 : List Int} (hl1 : l1.length ≤ 320) (hl2 : l2.length ≤ 320) {b : List Int} (hb : IsB b) (hbl : b.length ≤ 100000) {most : Int} (hm : most ≤ 1048576) : ∀ (k n p : Nat) (T : List Tok), 8 * b.length < p + k → p ≤ 8 * b.length → T.length ≤ n → (n : Int) ≤ most →
    ∃ z, loopN g32_d_1 o32_d_1 b32_d_1 k ((n : Int), most, b, ((ra p : Nat) : Int), ((rw' b p : Nat) : Int), ((rm p : Nat) : Int), C l1, l1, codes l1, sgs l1 15, C l2, l2, codes l2, sgs l2 15, T, ()) = some (.inl z) ∧ ZW l1 l2 b most (wordsR l1 l2 b most k n T p) z := by
  intro k
  induction k with
  | zero => intro n p T h1 h2; exfalso; omega
  | succ k ih =>
    intro n p T h1 h2 h3 h4
    rw [loopN_succ]
    generalize hL : loopN g32_d_1 o32_d_1 b32_d_1 k = L at ih ⊢
    unfold b32_d_1 wordsR wordR
    dsimp only
    rw [if_pos rfl, f37_b_eqn hl1 hb hbl l1 (codes l1) h2, Option.bind_some]
    dsimp only
    have a1 := readH_le l1 b h2
    have a2 := readH_lt l1 b p
    have a3 := readH_sign l1 b p
    generalize readH l1 b p = q1 at a1 a2 a3 ⊢
    obtain ⟨s, e, p1⟩ := q1
    dsimp only at a1 a2 a3 ⊢
    by_cases c1 : e ≠ 0
    · rw [if_pos (bne_iff_ne.2 c1), if_pos rfl, if_pos rfl, if_pos rfl, if_pos c1]
      exact ⟨_, rfl, c1, rfl⟩
    · rw [if_neg (fun h => c1 (bne_iff_ne.1 h)), if_neg c1]
      by_cases c2 : s = 256
      · rw [if_pos (beq_iff_eq.2 c2), if_pos rfl, if_pos rfl, if_pos rfl, if_pos c2]
        exact ⟨_, rfl, rfl, a1.2, h3, h4⟩
      · rw [if_neg (fun h => c2 (beq_iff_eq.1 h)), if_neg c2]
        by_cases c3 : s > 285
        · rw [if_pos (decide_eq_true c3), if_pos rfl, if_pos rfl, if_pos rfl, if_pos c3]
          exact ⟨_, rfl, by decide, rfl⟩
        · rw [if_neg (fun h => c3 (of_decide_eq_true h)), if_neg c3]
          obtain ⟨j, hj1, rfl⟩ : ∃ k : Nat, k < l1.length ∧ s = (k : Int) := by
            rcases a3 with ⟨k, b1, b2, _⟩ | a3 | a3
            · exact ⟨k, b1, b2⟩
            · omega
            · omega
          by_cases c4 : (j : Int) < 256
          · rw [if_pos (decide_eq_true c4), if_pos rfl, if_pos c4, f28_eqn (j : Int) (len := 0) (by omega) 0 h4 hm b _ _ _ h3]
            unfold addR
            dsimp only
            rw [if_neg (show ¬ ((0 : Int) > (n : Int)) by omega), if_neg (show ¬ ((0 : Int) > (n : Int)) by omega)]
            by_cases c5 : (n : Int) + max 0 1 > most
            · rw [if_pos c5, if_pos c5, Option.bind_some]
              dsimp only
              rw [if_pos (show ((2 : Int) != 0) = true by decide), if_pos rfl, if_pos rfl, if_pos rfl]
              exact ⟨_, rfl, by decide, rfl⟩
            · rw [if_neg c5, if_neg c5, Option.bind_some]
              dsimp only
              rw [if_neg (show ¬ (((0 : Int) != 0) = true) by decide), if_pos rfl, if_pos rfl, if_pos rfl, Option.bind_some, Sum.elim_inl]
              exact ih _ p1 _ (by omega) a1.2 (by rw [List.length_append, List.length_singleton]; omega) (by rw [Int.toNat_zero]; omega)
          · rw [if_neg (fun h => c4 (of_decide_eq_true h)), if_neg c4, f38_eqn (by omega) (by omega), Option.bind_some, Int.toNat_natCast]
            obtain ⟨L1, L2, L3⟩ := lenB_lim (s := j) (by omega) (by omega)
            generalize lenB j = lb at L1 L2 L3 ⊢
            obtain ⟨lb, lm⟩ := lb
            dsimp only at L1 L2 L3 ⊢
            by_cases c5 : 8 * b.length < p1 + lm
            · rw [if_pos c5, f25_more hbl a1.2 (by omega) c5, Option.bind_some]
              dsimp only
              rw [if_pos (show ((6 : Int) != 0) = true by decide), if_pos rfl, if_pos rfl, if_pos rfl]
              exact ⟨_, rfl, by decide, rfl⟩
            · have g0 : p1 + lm ≤ 8 * b.length := by omega
              rw [if_neg c5, f25_eqn hb hbl (by omega) g0, Option.bind_some]
              dsimp only
              rw [if_neg (show ¬ (((0 : Int) != 0) = true) by decide), if_pos rfl, f37_b_eqn hl2 hb hbl l2 (codes l2) g0, Option.bind_some]
              dsimp only
              have d1 := readH_le l2 b g0
              have d3 := readH_sign l2 b (p1 + lm)
              generalize readH l2 b (p1 + lm) = q2 at d1 d3 ⊢
              obtain ⟨d, e2, p2⟩ := q2
              dsimp only at d1 d3 ⊢
              by_cases c6 : e2 ≠ 0
              · rw [if_pos (bne_iff_ne.2 c6), if_pos rfl, if_pos rfl, if_pos rfl, if_pos c6]
                exact ⟨_, rfl, c6, rfl⟩
              · rw [if_neg (fun h => c6 (bne_iff_ne.1 h)), if_neg c6]
                by_cases c7 : d ≥ 30
                · rw [if_pos (decide_eq_true c7), if_pos rfl, if_pos rfl, if_pos rfl, if_pos c7]
                  exact ⟨_, rfl, by decide, rfl⟩
                · rw [if_neg (fun h => c7 (of_decide_eq_true h)), if_neg c7]
                  obtain ⟨i, hi1, rfl⟩ : ∃ k : Nat, k < l2.length ∧ d = (k : Int) := by
                    rcases d3 with ⟨k, b1, b2, _⟩ | d3 | d3
                    · exact ⟨k, b1, b2⟩
                    · omega
                    · omega
                  rw [f39_eqn (by omega), Option.bind_some, Int.toNat_natCast]
                  obtain ⟨B1, B2, B3⟩ := bkB_lim (s := i) (by omega)
                  generalize bkB i = bb at B1 B2 B3 ⊢
                  obtain ⟨bb, bm⟩ := bb
                  dsimp only at B1 B2 B3 ⊢
                  by_cases c8 : 8 * b.length < p2 + bm
                  · rw [if_pos c8, f25_more hbl d1.2 (by omega) c8, Option.bind_some]
                    dsimp only
                    rw [if_pos (show ((6 : Int) != 0) = true by decide), if_pos rfl, if_pos rfl, if_pos rfl]
                    exact ⟨_, rfl, by decide, rfl⟩
                  · have g1 : p2 + bm ≤ 8 * b.length := by omega
                    have x1 := bitsAt_lt b p1 lm
                    have x2 := bitsAt_lt b p2 bm
                    rw [if_neg c8, f25_eqn hb hbl (by omega) g1, Option.bind_some]
                    generalize bitsAt b p1 lm = y1 at x1 ⊢
                    generalize bitsAt b p2 bm = y2 at x2 ⊢
                    have w1 : IntKind.wrap .i64 ((lb : Int) + (y1 : Int)) = ((lb + y1 : Nat) : Int) := by rw [wrap_i64 (by omega)]; omega
                    have w2 : IntKind.wrap .i64 ((bb : Int) + (y2 : Int)) = ((bb + y2 : Nat) : Int) := by rw [wrap_i64 (by omega)]; omega
                    dsimp only
                    rw [if_neg (show ¬ (((0 : Int) != 0) = true) by decide), if_pos rfl, w1, w2, f28_eqn 0 (len := ((lb + y1 : Nat) : Int)) (by omega) ((bb + y2 : Nat) : Int) h4 hm b _ _ _ h3]
                    unfold addR
                    dsimp only
                    by_cases c9 : ((bb + y2 : Nat) : Int) > (n : Int)
                    · rw [if_pos c9, if_pos c9, Option.bind_some]
                      dsimp only
                      rw [if_pos (show ((4 : Int) != 0) = true by decide), if_pos rfl, if_pos rfl, if_pos rfl]
                      exact ⟨_, rfl, by decide, rfl⟩
                    · rw [if_neg c9, if_neg c9]
                      by_cases c10 : (n : Int) + max ((lb + y1 : Nat) : Int) 1 > most
                      · rw [if_pos c10, if_pos c10, Option.bind_some]
                        dsimp only
                        rw [if_pos (show ((2 : Int) != 0) = true by decide), if_pos rfl, if_pos rfl, if_pos rfl]
                        exact ⟨_, rfl, by decide, rfl⟩
                      · rw [if_neg c10, if_neg c10, Option.bind_some]
                        dsimp only
                        rw [if_neg (show ¬ (((0 : Int) != 0) = true) by decide), if_pos rfl, if_pos rfl, if_pos rfl, Option.bind_some, Sum.elim_inl]
                        exact ih _ (p2 + bm) _ (by omega) g1 (by rw [List.length_append, List.length_singleton]; omega) (by rw [Int.toNat_natCast]; omega)
theorem f32_d_eqn {l1 l2 : List Int} (hl1 : l1.length ≤ 320) (hl2 : l2.length ≤ 320) {b : List Int} (hb : IsB b) (hbl : b.length ≤ 100000) {most : Int} (hm : most ≤ 1048576) {n p : Nat} {T : List Tok} (hp : p ≤ 8 * b.length) (hT : T.length ≤ n) (hn : (n : Int) ≤ most) :
    ∃ z, f32_d ((n : Int), most, b, ((ra p : Nat) : Int), ((rw' b p : Nat) : Int), ((rm p : Nat) : Int), T, C l1, l1, codes l1, sgs l1 15, C l2, l2, codes l2, sgs l2 15, ()) = some z ∧ ZW l1 l2 b most (wordsR l1 l2 b most FU n T p) z := by
  obtain ⟨z, h1, h2⟩ := l32_d_1_spec hl1 hl2 hb hbl hm FU n p T (by unfold FU; omega) hp hT hn
  refine ⟨z, ?_, h2⟩
  have h' : loopN g32_d_1 o32_d_1 b32_d_1 18446744073709551616 ((n : Int), most, b, ((ra p : Nat) : Int), ((rw' b p : Nat) : Int), ((rm p : Nat) : Int), C l1, l1, codes l1, sgs l1 15, C l2, l2, codes l2, sgs l2 15, T, ()) = some (.inl z) := h1
  unfold f32_d
  dsimp only
  rw [if_pos rfl, if_pos rfl, if_pos rfl, show l32_d_1 = loopN g32_d_1 o32_d_1 b32_d_1 18446744073709551616 from rfl, h', Option.bind_some, Sum.elim_inl, if_pos rfl, if_pos rfl, if_pos rfl]

/-! # Lengths -/
def repB (s : Nat) : Nat × Nat := if s = 16 then (2, 3) else if s = 17 then (3, 3) else (7, 11)
theorem f40_eqn (s : Nat) : f40 ((s : Int), ()) = some (((repB s).1 : Int), ((repB s).2 : Int), decide (s = 16), ()) := by
  unfold f40 repB
  dsimp only
  by_cases c1 : s = 16
  · subst c1; rfl
  · rw [if_neg (show ¬ (((s : Int) == 16) = true) from fun h => c1 (by have := beq_iff_eq.1 h; omega)), if_neg c1, decide_eq_false c1]
    by_cases c2 : s = 17
    · subst c2; rfl
    · rw [if_neg (show ¬ (((s : Int) == 17) = true) from fun h => c2 (by have := beq_iff_eq.1 h; omega)), if_neg c2]
      rfl
theorem repB_lim (s : Nat) : 3 ≤ (repB s).2 ∧ (repB s).2 ≤ 11 ∧ (repB s).1 ≤ 7 := by
  unfold repB
  by_cases c1 : s = 16
  · rw [if_pos c1]; exact ⟨by decide, by decide, by decide⟩
  · rw [if_neg c1]
    by_cases c2 : s = 17
    · rw [if_pos c2]; exact ⟨by decide, by decide, by decide⟩
    · rw [if_neg c2]; exact ⟨by decide, by decide, by decide⟩
/-- One step of the lengths: what is told behind them, or why not. -/
noncomputable def lenR (few b : List Int) (all : Nat) (o : List Int) (p : Nat) : (List Int × Nat) ⊕ Int :=
  if (readH few b p).2.1 ≠ 0 then .inr (readH few b p).2.1
  else if (readH few b p).1 < 16 then .inl (o ++ [(readH few b p).1], (readH few b p).2.2)
  else if (readH few b p).1 = 16 ∧ o.length = 0 then .inr 4
  else if 8 * b.length < (readH few b p).2.2 + (repB (readH few b p).1.toNat).1 then .inr 6
  else if all < o.length + (repB (readH few b p).1.toNat).2 + bitsAt b (readH few b p).2.2 (repB (readH few b p).1.toNat).1 then .inr 4
  else .inl (o ++ List.replicate ((repB (readH few b p).1.toNat).2 + bitsAt b (readH few b p).2.2 (repB (readH few b p).1.toNat).1) (if (readH few b p).1 = 16 then o.getD (o.length - 1) 0 else 0), (readH few b p).2.2 + (repB (readH few b p).1.toNat).1)
noncomputable def lensR (few b : List Int) (all : Nat) : Nat → List Int → Nat → (List Int × Nat) ⊕ Int
  | 0, _, _ => .inr 6
  | k + 1, o, p => if all ≤ o.length then .inl (o, p) else match lenR few b all o p with
    | .inr e => .inr e
    | .inl (o', p') => lensR few b all k o' p'
end Go.Ev.Inflate
namespace Go.Ev.Inflate

/-! # Repeat -/
theorem wrap_u64 {n : Nat} (h : n < 18446744073709551616) : IntKind.wrap .u64 (n : Int) = (n : Int) := by
  have e : IntKind.wrap .u64 (n : Int) = (n : Int) % 18446744073709551616 := rfl
  rw [e]; omega
theorem f36_one {n : Nat} (hn : n < 65536) : f36 (1, (n : Int), ()) = some (0, (n : Int), ()) := by
  have e1 : Int.fdiv 1 4294967296 = 0 := by decide
  have e2 : Int.fdiv (n : Int) 4294967296 = 0 := by rw [Int.fdiv_eq_ediv_of_nonneg _ (by omega)]; omega
  have e3 : (BitVec.ofInt 64 1 &&& BitVec.ofInt 64 4294967295).toNat = 1 := by decide
  have e4 : (BitVec.ofInt 64 (n : Int) &&& BitVec.ofInt 64 4294967295).toNat = n := by
    rw [show (4294967295 : Int) = ((2 ^ 32 - 1 : Nat) : Int) from rfl, and64 (by omega) (by omega), Nat.and_two_pow_sub_one_eq_mod]; omega
  have e5 : (BitVec.ofInt 64 0 &&& BitVec.ofInt 64 4294967295).toNat = 0 := by decide
  have w0 : IntKind.wrap .u64 (0 : Int) = 0 := rfl
  have w1 : IntKind.wrap .u64 ((1 : Nat) : Int) = 1 := rfl
  have wn : IntKind.wrap .u64 (n : Int) = (n : Int) := wrap_u64 (by omega)
  have z0 : ((0 : Nat) : Int) = 0 := rfl
  unfold f36 f43
  dsimp only
  rw [e1, e2, e3, e4]
  simp only [w1, wn, Int.zero_mul, Int.mul_zero, Int.one_mul, Int.add_zero, w0, e2, e5, z0, Option.bind_some, show Int.fdiv 0 4294967296 = 0 from by decide]
theorem l31_1_spec (x : Int) {n : Nat} (hn : n ≤ 1000) : ∀ (k c : Nat), n < c + k → 1 ≤ c → c ≤ n →
    loopN g31_1 o31_1 b31_1 k ((c : Int), List.replicate c x ++ List.replicate (n - c) 0, ()) = some (.inl (List.replicate n x, ())) := by
  intro k
  induction k with
  | zero => intro c h1 h2 h3; omega
  | succ k ih =>
    intro c h1 h2 h3
    rw [loopN_succ]
    generalize hL : loopN g31_1 o31_1 b31_1 k = L at ih ⊢
    unfold b31_1
    dsimp only
    have hlen : (List.replicate c x ++ List.replicate (n - c) (0 : Int)).length = n := by rw [List.length_append, List.length_replicate, List.length_replicate]; omega
    have ht : List.take (Int.toNat (c : Int) - 0) (List.drop 0 (List.replicate c x ++ List.replicate (n - c) (0 : Int))) = List.replicate c x := by
      rw [List.drop_zero, Int.toNat_natCast, Nat.sub_zero, List.take_left' (List.length_replicate ..)]
    have ht' : List.take (0 + Int.toNat (c : Int)) (List.replicate c x ++ List.replicate (n - c) (0 : Int)) = List.replicate c x := by
      rw [Int.toNat_natCast, Nat.zero_add, List.take_left' (List.length_replicate ..)]
    rw [ht, ht', hlen, List.length_replicate, Int.toNat_natCast]
    rcases Nat.lt_or_ge c n with h | h
    · have hd : List.drop (0 + c + min c (n - c)) (List.replicate c x ++ List.replicate (n - c) (0 : Int)) = List.replicate (n - (c + min c (n - c))) 0 := by
        rw [List.drop_append, List.length_replicate, List.drop_eq_nil_of_le (by rw [List.length_replicate]; omega), List.nil_append, List.drop_replicate]
        congr 1; omega
      have hm : List.take (min c (n - c)) (List.replicate c x) = List.replicate (min c (n - c)) x := by
        rw [List.take_replicate]; congr 1; omega
      rw [hd, hm, ← List.append_assoc, List.replicate_append_replicate]
      rw [if_pos (by rw [decide_eq_true_eq]; omega), if_pos (by omega), if_pos (by omega), if_pos (by omega), if_pos (by omega), if_neg (by omega), if_pos (by rw [List.length_append, List.length_replicate, List.length_replicate]; omega),
        show IntKind.wrap .i64 ((c : Int) + ((min c (n - c) : Nat) : Int)) = ((c + min c (n - c) : Nat) : Int) by rw [wrap_i64 (by omega)]; omega, Option.bind_some, Sum.elim_inl]
      exact ih (c + min c (n - c)) (by omega) (by omega) (by omega)
    · have e : c = n := by omega
      subst e
      rw [if_neg (by rw [decide_eq_true_eq]; omega), if_pos rfl, Nat.sub_self, List.replicate_zero, List.append_nil]
      rfl
theorem f31_eqn (x : Int) {n : Nat} (h1 : 1 ≤ n) (hn : n ≤ 1000) : f31 ([x], (n : Int), ()) = some (List.replicate n x, ()) := by
  unfold f31
  dsimp only
  rw [if_neg (by rw [decide_eq_true_eq]; omega)]
  have e1 : IntKind.wrap .u64 (([x].length : Nat) : Int) = 1 := rfl
  rw [e1, wrap_u64 (by omega), f36_one (by omega), Option.bind_some]
  dsimp only
  have e2 : min ([x].length) (Int.toNat (n : Int)) = 1 := by rw [List.length_singleton, Int.toNat_natCast]; omega
  have e3 : List.take 1 [x] = [x] := rfl
  have h := l31_1_spec x hn 18446744073709551616 1 (by omega) (by omega) (by omega)
  have e4 : List.take 0 (List.replicate n (0 : Int)) ++ ([x] ++ List.drop (0 + 1) (List.replicate n 0)) = List.replicate 1 x ++ List.replicate (n - 1) 0 := by
    rw [List.take_zero, List.nil_append, List.drop_replicate]; rfl
  have h' : loopN g31_1 o31_1 b31_1 18446744073709551616 (1, List.replicate 1 x ++ List.replicate (n - 1) 0, ()) = _ := h
  rw [wrap_i64 (by omega), e2, e3, Int.toNat_natCast, e4]
  rw [if_neg (show ¬ (decide ((0 : Int) > 0) = true) by decide), if_neg (by rw [decide_eq_true_eq]; omega), if_pos (by omega), if_pos (by omega), if_pos (by omega), if_neg (show ¬ (1 = 0) by decide), if_pos (by rw [List.length_append, List.length_replicate, List.length_replicate]; omega),
    show l31_1 = loopN g31_1 o31_1 b31_1 18446744073709551616 from rfl, show (((1 : Nat) : Nat) : Int) = 1 from rfl, h', Option.bind_some, Sum.elim_inl, if_pos rfl]

/-! # Lengths are read -/
theorem lenR_inl {few b o : List Int} {all p : Nat} (hp : p ≤ 8 * b.length) (ho : o.length < all) {o' : List Int} {p' : Nat} (h : lenR few b all o p = .inl (o', p')) : p < p' ∧ p' ≤ 8 * b.length ∧ o'.length ≤ all := by
  unfold lenR at h
  have h1 := readH_le few b hp
  have h2 := readH_lt few b p
  generalize readH few b p = q1 at h h1 h2
  obtain ⟨s, e, p1⟩ := q1
  dsimp only at h h1 h2
  by_cases c1 : e ≠ 0
  · rw [if_pos c1] at h; cases h
  · rw [if_neg c1] at h
    by_cases c2 : s < 16
    · rw [if_pos c2] at h
      injection h with h; injection h with ha hb
      subst ha hb
      exact ⟨by omega, h1.2, by rw [List.length_append, List.length_singleton]; omega⟩
    · rw [if_neg c2] at h
      by_cases c3 : s = 16 ∧ o.length = 0
      · rw [if_pos c3] at h; cases h
      · rw [if_neg c3] at h
        by_cases c4 : 8 * b.length < p1 + (repB s.toNat).1
        · rw [if_pos c4] at h; cases h
        · rw [if_neg c4] at h
          by_cases c5 : all < o.length + (repB s.toNat).2 + bitsAt b p1 (repB s.toNat).1
          · rw [if_pos c5] at h; cases h
          · rw [if_neg c5] at h
            injection h with h; injection h with ha hb
            subst ha hb
            exact ⟨by omega, by omega, by rw [List.length_append, List.length_replicate]; omega⟩
theorem lenR_inr {few b o : List Int} {all p : Nat} {e : Int} (h : lenR few b all o p = .inr e) : e ≠ 0 := by
  unfold lenR at h
  generalize readH few b p = q1 at h
  obtain ⟨s, e1, p1⟩ := q1
  dsimp only at h
  by_cases c1 : e1 ≠ 0
  · rw [if_pos c1] at h; injection h with h; subst h; exact c1
  · rw [if_neg c1] at h
    by_cases c2 : s < 16
    · rw [if_pos c2] at h; cases h
    · rw [if_neg c2] at h
      by_cases c3 : s = 16 ∧ o.length = 0
      · rw [if_pos c3] at h; injection h with h; omega
      · rw [if_neg c3] at h
        by_cases c4 : 8 * b.length < p1 + (repB s.toNat).1
        · rw [if_pos c4] at h; injection h with h; omega
        · rw [if_neg c4] at h
          by_cases c5 : all < o.length + (repB s.toNat).2 + bitsAt b p1 (repB s.toNat).1
          · rw [if_pos c5] at h; injection h with h; omega
          · rw [if_neg c5] at h; cases h
theorem lensR_lim {few b : List Int} {all : Nat} : ∀ (k : Nat) (o : List Int) (p : Nat), p ≤ 8 * b.length → o.length ≤ all → ∀ (o' : List Int) (p' : Nat), lensR few b all k o p = .inl (o', p') → p ≤ p' ∧ p' ≤ 8 * b.length ∧ o'.length = all
  | 0, o, p, _, _, o', p', h => by cases h
  | k + 1, o, p, hp, ho, o', p', h => by
    unfold lensR at h
    by_cases c : all ≤ o.length
    · rw [if_pos c] at h
      injection h with h; injection h with ha hb
      subst ha hb
      exact ⟨Nat.le_refl _, hp, by omega⟩
    · rw [if_neg c] at h
      cases hR : lenR few b all o p with
      | inr e => rw [hR] at h; cases h
      | inl z =>
        obtain ⟨o1, p1⟩ := z
        rw [hR] at h
        dsimp only at h
        obtain ⟨g1, g2, g3⟩ := lenR_inl hp (by omega) hR
        obtain ⟨k1, k2, k3⟩ := lensR_lim k o1 p1 g2 g3 o' p' h
        exact ⟨by omega, k2, k3⟩
def ZL (few b : List Int) (n most : Int) (T : List Tok) (r : (List Int × Nat) ⊕ Int) (z : go33_b.D) : Prop :=
  match r with
  | .inl (o, p) => z = (o, 0, n, most, b, ((ra p : Nat) : Int), ((rw' b p : Nat) : Int), ((rm p : Nat) : Int), T, C few, few, codes few, sgs few 15, ())
  | .inr e => e ≠ 0 ∧ z.2.1 = e
theorem b33_b_2_eqn (all more least : Int) (ah : Bool) (v n most : Int) (b' : List Int) (a w m : Int) (T : List Tok) (x1 x2 x3 x4 o : List Int) :
    b33_b_2 (all, more, least, ah, v, n, most, b', a, w, m, T, x1, x2, x3, x4, o, ()) = some (.inl (all, more, least, ah, v, (ah && decide (o.length = 0)), n, most, b', a, w, m, T, x1, x2, x3, x4, o, ())) := by
  unfold b33_b_2
  dsimp only
  cases ah with
  | true =>
    rw [if_pos rfl, if_pos rfl, if_pos rfl, if_pos rfl, Bool.true_and]
    have e : (((o.length : Nat) : Int) == 0) = decide (o.length = 0) := by
      rw [Bool.eq_iff_iff, beq_iff_eq, decide_eq_true_eq]; omega
    rw [e]
  | false => rw [if_neg (by decide), if_pos rfl, if_pos rfl, if_pos rfl, Bool.false_and]
theorem b33_b_3_eqn (all more least : Int) (ah : Bool) (v n most : Int) (b' : List Int) (a w m : Int) (T : List Tok) (x1 x2 x3 x4 o : List Int) (h : ah = true → 0 < o.length) (ho : o.length ≤ 1000) :
    b33_b_3 (all, more, least, ah, v, n, most, b', a, w, m, T, x1, x2, x3, x4, o, ()) = some (.inl (all, more, least, (if ah = true then o.getD (o.length - 1) 0 else v), n, most, b', a, w, m, T, x1, x2, x3, x4, o, ())) := by
  unfold b33_b_3
  dsimp only
  cases ah with
  | true =>
    have h0 := h rfl
    have e : IntKind.wrap .i64 (((o.length : Nat) : Int) - 1) = ((o.length - 1 : Nat) : Int) := by rw [wrap_i64 (by omega)]; omega
    rw [if_pos rfl, e, if_pos (by omega), if_pos (by omega), if_pos rfl, if_pos rfl, if_pos rfl, Int.toNat_natCast, Nat.zero_add, if_pos rfl]
  | false => rw [if_neg (by decide), if_pos rfl, if_pos rfl, if_pos rfl, if_neg (by decide)]
theorem l33_b_1_spec {few : List Int} (hf : few.length ≤ 320) {b : List Int} (hb : IsB b) (hbl : b.length ≤ 100000) {all : Nat} (hall : all ≤ 400) (n most : Int) (T : List Tok) : ∀ (k p : Nat) (o : List Int), 8 * b.length < p + k → p ≤ 8 * b.length → o.length ≤ all →
    (match lensR few b all k o p with
    | .inl (o', p') => loopN g33_b_1 o33_b_1 b33_b_1 k ((all : Int), n, most, b, ((ra p : Nat) : Int), ((rw' b p : Nat) : Int), ((rm p : Nat) : Int), T, C few, few, codes few, sgs few 15, o, ()) = some (.inl (n, most, b, ((ra p' : Nat) : Int), ((rw' b p' : Nat) : Int), ((rm p' : Nat) : Int), T, C few, few, codes few, sgs few 15, o', ()))
    | .inr e => e ≠ 0 ∧ ∃ z, loopN g33_b_1 o33_b_1 b33_b_1 k ((all : Int), n, most, b, ((ra p : Nat) : Int), ((rw' b p : Nat) : Int), ((rm p : Nat) : Int), T, C few, few, codes few, sgs few 15, o, ()) = some (.inr (.inl ([], e, z)))) := by
  intro k
  induction k with
  | zero => intro p o h1 h2; exfalso; omega
  | succ k ih =>
    intro p o h1 h2 h3
    rw [loopN_succ]
    generalize hL : loopN g33_b_1 o33_b_1 b33_b_1 k = L at ih ⊢
    unfold lensR
    by_cases c : all ≤ o.length
    · rw [if_pos c]
      dsimp only
      unfold b33_b_1
      dsimp only
      rw [if_neg (by rw [decide_eq_true_eq]; omega), if_pos rfl, if_pos rfl, if_pos rfl]
      rfl
    · rw [if_neg c]
      have hnx := fun (o' : List Int) (p' : Nat) => lenR_inl (few := few) (b := b) (o := o) (all := all) h2 (by omega) (o' := o') (p' := p')
      unfold lenR at hnx ⊢
      unfold b33_b_1
      dsimp only
      rw [if_pos (show decide (((o.length : Nat) : Int) < (all : Int)) = true by rw [decide_eq_true_eq]; omega), if_pos rfl, f37_b_eqn hf hb hbl few (codes few) h2, Option.bind_some]
      have a1 := readH_le few b h2
      have a3 := readH_sign few b p
      generalize readH few b p = q1 at a1 a3 hnx ⊢
      obtain ⟨s, e, p1⟩ := q1
      dsimp only at a1 a3 hnx ⊢
      by_cases c1 : e ≠ 0
      · rw [if_pos c1, if_pos (bne_iff_ne.2 c1), if_pos rfl, if_pos rfl]
        exact ⟨c1, _, rfl⟩
      · rw [if_neg c1] at hnx
        rw [if_neg c1, if_neg (fun h => c1 (bne_iff_ne.1 h))]
        have e1 : List.take 1 (List.drop 0 (List.set (List.replicate 1 (0 : Int)) 0 s)) = [s] := rfl
        by_cases c2 : s < 16
        · rw [if_pos c2] at hnx
          rw [if_pos c2, if_pos (decide_eq_true c2), e1, full, if_pos (by rw [List.length_singleton]; omega), if_pos rfl, if_pos rfl, if_pos rfl, Option.bind_some, Sum.elim_inl]
          obtain ⟨k1, k2, k3⟩ := hnx _ _ rfl
          exact ih p1 (o ++ [s]) (by omega) k2 k3
        · rw [if_neg c2] at hnx
          obtain ⟨j, hj1, rfl⟩ : ∃ k : Nat, k < few.length ∧ s = (k : Int) := by
            rcases a3 with ⟨k, b1, b2, _⟩ | a3 | a3
            · exact ⟨k, b1, b2⟩
            · omega
            · omega
          rw [if_neg c2, if_neg (fun h => c2 (of_decide_eq_true h)), f40_eqn, Option.bind_some]
          rw [Int.toNat_natCast] at hnx ⊢
          obtain ⟨r1, r2, r3⟩ := repB_lim j
          generalize repB j = rp at r1 r2 r3 hnx ⊢
          obtain ⟨more, least⟩ := rp
          dsimp only at r1 r2 r3 hnx ⊢
          rw [if_pos rfl, if_pos rfl, if_pos rfl, b33_b_2_eqn, Option.bind_some, Sum.elim_inl]
          dsimp only
          by_cases c3 : (j : Int) = 16 ∧ o.length = 0
          · have c3' : (decide (j = 16) && decide (o.length = 0)) = true := by rw [decide_eq_true (by omega), decide_eq_true c3.2]; rfl
            rw [if_pos c3, c3', if_pos rfl, if_pos rfl, if_pos rfl]
            exact ⟨by decide, _, rfl⟩
          · have c3' : (decide (j = 16) && decide (o.length = 0)) = false := by
              by_cases e1 : j = 16
              · rw [decide_eq_false (fun h => c3 ⟨by omega, h⟩), Bool.and_false]
              · rw [decide_eq_false e1, Bool.false_and]
            rw [if_neg c3] at hnx
            rw [if_neg c3, c3', if_neg (show ¬ (false = true) by decide), if_pos rfl, if_pos rfl, if_pos rfl, b33_b_3_eqn _ _ _ _ _ _ _ _ _ _ _ _ _ _ _ _ _ (fun h => by have := of_decide_eq_true h; omega) (by omega), Option.bind_some, Sum.elim_inl]
            have ew : (if (decide (j = 16)) = true then o.getD (o.length - 1) 0 else 0) = (if (j : Int) = 16 then o.getD (o.length - 1) 0 else 0) := by
              by_cases e1 : j = 16
              · rw [if_pos (decide_eq_true e1), if_pos (by omega)]
              · rw [if_neg (fun h => e1 (of_decide_eq_true h)), if_neg (by omega)]
            rw [ew]
            generalize (if (j : Int) = 16 then o.getD (o.length - 1) 0 else 0) = wv at hnx ⊢
            dsimp only
            by_cases c4 : 8 * b.length < p1 + more
            · rw [if_pos c4, f25_more hbl a1.2 (by omega) c4, Option.bind_some]
              dsimp only
              rw [if_pos (show ((6 : Int) != 0) = true by decide), if_pos rfl, if_pos rfl]
              exact ⟨by decide, _, rfl⟩
            · have g0 : p1 + more ≤ 8 * b.length := by omega
              rw [if_neg c4] at hnx
              rw [if_neg c4, f25_eqn hb hbl (by omega) g0, Option.bind_some]
              dsimp only
              have x1 := bitsAt_lt b p1 more
              have x2 : (2 : Nat) ^ more ≤ 2 ^ 7 := Nat.pow_le_pow_right (by omega) r3
              have x3 : (2 : Nat) ^ 7 = 128 := rfl
              generalize bitsAt b p1 more = y1 at x1 hnx ⊢
              have w1 : IntKind.wrap .i64 (IntKind.wrap .i64 (((o.length : Nat) : Int) + (least : Int)) + (y1 : Int)) = ((o.length + least + y1 : Nat) : Int) := by
                rw [wrap_i64 (n := ((o.length : Nat) : Int) + (least : Int)) (by omega), wrap_i64 (by omega)]; omega
              have w2 : IntKind.wrap .i64 ((least : Int) + (y1 : Int)) = ((least + y1 : Nat) : Int) := by rw [wrap_i64 (by omega)]; omega
              rw [if_neg (show ¬ (((0 : Int) != 0) = true) by decide), w1, w2]
              by_cases c5 : all < o.length + least + y1
              · rw [if_pos c5, if_pos (show decide (((o.length + least + y1 : Nat) : Int) > (all : Int)) = true by rw [decide_eq_true_eq]; omega), if_pos rfl, if_pos rfl]
                exact ⟨by decide, _, rfl⟩
              · have e2 : List.take 1 (List.drop 0 (List.set (List.replicate 1 (0 : Int)) 0 wv)) = [wv] := rfl
                rw [if_neg c5] at hnx
                rw [if_neg c5, if_neg (show ¬ (decide (((o.length + least + y1 : Nat) : Int) > (all : Int)) = true) by rw [decide_eq_true_eq]; omega), e2, f31_eqn wv (by omega) (by omega), Option.bind_some]
                dsimp only
                have e3 : List.take (List.replicate (least + y1) wv).length (List.drop 0 (List.replicate (least + y1) wv)) = List.replicate (least + y1) wv := full _
                rw [full o, e3, if_pos (by rw [List.length_replicate]; omega), if_pos rfl, if_pos rfl, if_pos rfl, Option.bind_some, Sum.elim_inl]
                obtain ⟨k1, k2, k3⟩ := hnx _ _ rfl
                exact ih (p1 + more) _ (by omega) k2 k3
theorem f33_b_eqn {few : List Int} (hf : few.length ≤ 320) {b : List Int} (hb : IsB b) (hbl : b.length ≤ 100000) {all : Nat} (hall : all ≤ 400) (n most : Int) (T : List Tok) {p : Nat} (hp : p ≤ 8 * b.length) :
    ∃ z, f33_b ((all : Int), n, most, b, ((ra p : Nat) : Int), ((rw' b p : Nat) : Int), ((rm p : Nat) : Int), T, C few, few, codes few, sgs few 15, ()) = some z ∧ ZL few b n most T (lensR few b all FU [] p) z := by
  have h := l33_b_1_spec hf hb hbl hall n most T FU p [] (by unfold FU; omega) hp (Nat.zero_le _)
  unfold f33_b
  dsimp only
  rw [if_pos rfl, if_pos rfl, show l33_b_1 = loopN g33_b_1 o33_b_1 b33_b_1 FU from rfl]
  generalize lensR few b all FU [] p = r at h ⊢
  cases r with
  | inl r =>
    obtain ⟨o, p'⟩ := r
    dsimp only at h
    rw [h, Option.bind_some, Sum.elim_inl]
    dsimp only
    rw [if_pos rfl, if_pos rfl, full]
    exact ⟨_, rfl, rfl⟩
  | inr e =>
    obtain ⟨h1, z, h2⟩ := h
    rw [h2, Option.bind_some, Sum.elim_inr, Sum.elim_inl]
    dsimp only
    rw [if_pos rfl, if_pos rfl]
    exact ⟨_, rfl, h1, rfl⟩
end Go.Ev.Inflate
namespace Go.Ev.Inflate

/-! # What the blocks do -/
def ord19 : List Int := [16, 17, 18, 0, 8, 7, 9, 6, 10, 5, 11, 4, 12, 3, 13, 2, 14, 1, 15]
def fewR (b : List Int) : List Int → List Int → Nat → (List Int × Nat) ⊕ Int
  | [], few, p => .inl (few, p)
  | a :: l, few, p => if 8 * b.length < p + 3 then .inr 6 else fewR b l (few.set a.toNat ((bitsAt b p 3 : Nat) : Int)) (p + 3)
/-- Behind a row of lengths. -/
noncomputable def tabsR (b : List Int) (most : Int) (n : Nat) (T : List Tok) (s : Nat) (l : List Int) (p : Nat) : (Nat × List Tok × Nat) ⊕ Int :=
  if l.getD 256 0 = 0 then .inr 4
  else if errM (l.take s) ≠ 0 then .inr (errM (l.take s))
  else if errM (l.drop s) ≠ 0 then .inr (errM (l.drop s))
  else wordsR (l.take s) (l.drop s) b most FU n T p
noncomputable def ownR (b : List Int) (most : Int) (n : Nat) (T : List Tok) (p : Nat) : (Nat × List Tok × Nat) ⊕ Int :=
  if 8 * b.length < p + 14 then .inr 6
  else if 29 < bitsAt b p 5 ∨ 29 < bitsAt b (p + 5) 5 then .inr 4
  else match fewR b (ord19.take (bitsAt b (p + 10) 4 + 4)) (List.replicate 19 0) (p + 14) with
    | .inr e => .inr e
    | .inl (few, p1) => if errM few ≠ 0 then .inr (errM few) else match lensR few b (bitsAt b p 5 + 257 + (bitsAt b (p + 5) 5 + 1)) FU [] p1 with
      | .inr e => .inr e
      | .inl (l, p2) => tabsR b most n T (bitsAt b p 5 + 257) l p2
def fixL : List Int := List.replicate 144 8 ++ List.replicate 112 9 ++ List.replicate 24 7 ++ List.replicate 8 8
def fixD : List Int := List.replicate 32 5
noncomputable def kindR (b : List Int) (most : Int) (kind n : Nat) (T : List Tok) (p : Nat) : (Nat × List Tok × Nat) ⊕ Int :=
  if kind = 0 then storedR b most n T p
  else if kind = 1 then wordsR fixL fixD b most FU n T p
  else if kind = 2 then ownR b most n T p
  else .inr 4
noncomputable def blocksR (b : List Int) (most : Int) : Nat → Nat → List Tok → Nat → (Nat × List Tok × Nat) ⊕ Int
  | 0, _, _, _ => .inr 6
  | k + 1, n, T, p => if 8 * b.length < p + 3 then .inr 6 else match kindR b most (bitsAt b (p + 1) 2) n T (p + 3) with
    | .inr e => .inr e
    | .inl (n', T', p') => if bitsAt b p 1 = 1 then .inl (n', T', p') else blocksR b most k n' T' p'
/-- What Tokens answers. -/
noncomputable def tokR (b : List Int) (most : Int) : List Tok × Int × Int × Unit :=
  if most < 0 ∨ 1048576 < most then ([], 0, 1, ()) else match blocksR b most FU 0 [] 0 with
    | .inr e => ([], 0, e, ())
    | .inl (_, T, p) => (T, (((p + 7) / 8 : Nat) : Int), 0, ())

/-! # What stays so -/
theorem exp_cons (most : Int) (t : Tok) (l : List Tok) (out : List Int) : exp most (t :: l) out = if t.2.2 > ((out.length : Nat) : Int) then .inr 4 else if ((out.length : Nat) : Int) + max t.2.1 1 > most then .inr 2 else
      exp most l (cpy t.2.2.toNat t.2.1.toNat (if t.2.1 = 0 then out ++ [t.1] else out)) := rfl
theorem exp_append (most : Int) : ∀ (A B : List Tok) (out : List Int), exp most (A ++ B) out = match exp most A out with | .inl o => exp most B o | .inr e => .inr e
  | [], B, out => rfl
  | t :: A, B, out => by
    rw [List.cons_append, exp_cons, exp_cons]
    by_cases c1 : t.2.2 > ((out.length : Nat) : Int)
    · rw [if_pos c1, if_pos c1]
    · rw [if_neg c1, if_neg c1]
      by_cases c2 : ((out.length : Nat) : Int) + max t.2.1 1 > most
      · rw [if_pos c2, if_pos c2]
      · rw [if_neg c2, if_neg c2]
        exact exp_append most A B _
/-- The tokens that were told are bytes, so many. -/
structure Inv (most : Int) (n : Nat) (T : List Tok) : Prop where
  out : ∃ o, exp most T [] = .inl o ∧ o.length = n
  tok : T.all isT = true
  len : T.length ≤ n
  lim : (n : Int) ≤ most
theorem Inv.nil {most : Int} (h : 0 ≤ most) : Inv most 0 [] := ⟨⟨[], rfl, rfl⟩, rfl, Nat.le_refl _, h⟩
theorem Inv.add {most : Int} {n : Nat} {T : List Tok} (h : Inv most n T) {t : Tok} (ht : isT t = true) {n' : Nat} {T' : List Tok} (ha : addR most t n T = .inl (n', T')) : Inv most n' T' := by
  obtain ⟨h1, h2, h3, h4⟩ := addR_inl ha
  obtain ⟨o, ho, hn⟩ := h.out
  subst h4
  refine ⟨⟨cpy t.2.2.toNat t.2.1.toNat (if t.2.1 = 0 then o ++ [t.1] else o), ?_, ?_⟩, ?_, ?_, ?_⟩
  · rw [exp_append, ho]
    dsimp only
    unfold exp
    rw [if_neg (by omega), if_neg (by omega)]
    rfl
  · rw [length_cpy, h3]
    rw [isT_iff] at ht
    by_cases c : t.2.1 = 0
    · rw [if_pos c, List.length_append, List.length_singleton, hn, c]
      rfl
    · rw [if_neg c, hn]; omega
  · rw [List.all_append, h.tok, Bool.true_and, List.all_cons, ht]
    rfl
  · rw [List.length_append, List.length_singleton, h3]
    have := h.len
    omega
  · rw [h3]; omega
theorem Inv.lits {most : Int} {n : Nat} {T : List Tok} (h : Inv most n T) {l : List Int} (hl : IsB l) (hm : ((n + l.length : Nat) : Int) ≤ most) : Inv most (n + l.length) (T ++ lits l) := by
  obtain ⟨o, ho, hn⟩ := h.out
  have hll : (Inflate.lits l).length = l.length := by unfold Inflate.lits; rw [List.length_map]
  refine ⟨⟨o ++ l, ?_, ?_⟩, ?_, ?_, hm⟩
  · rw [exp_append, ho]
    exact exp_lits most l o (by rw [hn]; exact hm)
  · rw [List.length_append, hn]
  · rw [List.all_append, h.tok, isT_lits hl]; rfl
  · rw [List.length_append, hll]
    have := h.len
    omega
theorem wordsR_inv {l1 l2 b : List Int} {most : Int} : ∀ (k n : Nat) (T : List Tok) (p : Nat), p ≤ 8 * b.length → Inv most n T → ∀ (n' : Nat) (T' : List Tok) (p' : Nat), wordsR l1 l2 b most k n T p = .inl (n', T', p') → p < p' ∧ p' ≤ 8 * b.length ∧ Inv most n' T'
  | 0, _, _, _, _, _, _, _, _, h => by cases h
  | k + 1, n, T, p, hp, hI, n', T', p', h => by
    unfold wordsR at h
    cases hw : wordR l1 l2 b p with
    | inr e => rw [hw] at h; cases h
    | inl z =>
      obtain ⟨o, p1⟩ := z
      obtain ⟨g1, g2, g3⟩ := wordR_lt hp hw
      rw [hw] at h
      cases o with
      | none =>
        injection h with h; injection h with ha h; injection h with hb hc
        subst ha hb hc
        exact ⟨g1, g2, hI⟩
      | some t =>
        dsimp only at h
        cases ha : addR most t n T with
        | inr e => rw [ha] at h; cases h
        | inl z =>
          obtain ⟨n1, T1⟩ := z
          rw [ha] at h
          obtain ⟨k1, k2, k3⟩ := wordsR_inv k n1 T1 p1 g2 (hI.add (g3 t rfl) ha) n' T' p' h
          exact ⟨by omega, k2, k3⟩
theorem wordsR_inr {l1 l2 b : List Int} {most : Int} : ∀ (k n : Nat) (T : List Tok) (p : Nat) (e : Int), wordsR l1 l2 b most k n T p = .inr e → e ≠ 0
  | 0, _, _, _, e, h => by injection h with h; omega
  | k + 1, n, T, p, e, h => by
    unfold wordsR at h
    cases hw : wordR l1 l2 b p with
    | inr e => rw [hw] at h; injection h with h; subst h; exact wordR_err hw
    | inl z =>
      obtain ⟨o, p1⟩ := z
      rw [hw] at h
      cases o with
      | none => cases h
      | some t =>
        dsimp only at h
        cases ha : addR most t n T with
        | inr e => rw [ha] at h; injection h with h; subst h; exact addR_inr ha
        | inl z =>
          obtain ⟨n1, T1⟩ := z
          rw [ha] at h
          exact wordsR_inr k n1 T1 p1 e h
theorem storedR_inv {b : List Int} (hb : IsB b) {most : Int} {n : Nat} {T : List Tok} {p : Nat} (hI : Inv most n T) {n' : Nat} {T' : List Tok} {p' : Nat} (h : storedR b most n T p = .inl (n', T', p')) : p < p' ∧ p' ≤ 8 * b.length ∧ Inv most n' T' := by
  unfold storedR at h
  by_cases c1 : 8 * b.length < 8 * ra p + 32
  · rw [if_pos c1] at h; cases h
  · rw [if_neg c1] at h
    by_cases c2 : bitsAt b (8 * ra p) 16 ^^^ bitsAt b (8 * ra p + 16) 16 ≠ 65535
    · rw [if_pos c2] at h; cases h
    · rw [if_neg c2] at h
      generalize bitsAt b (8 * ra p) 16 = v at h
      by_cases c3 : b.length < ra p + 4 + v
      · rw [if_pos c3] at h; cases h
      · rw [if_neg c3] at h
        by_cases c4 : ((n + v : Nat) : Int) > most
        · rw [if_pos c4] at h; cases h
        · rw [if_neg c4] at h
          injection h with h; injection h with ha h; injection h with hb' hc
          have hl : ((b.drop (ra p + 4)).take v).length = v := by rw [List.length_take, List.length_drop]; omega
          have := hI.lits (l := (b.drop (ra p + 4)).take v) ((hb.drop _).take _) (by rw [hl]; omega)
          rw [hl] at this
          subst ha hb' hc
          exact ⟨by unfold ra; omega, by omega, this⟩
theorem storedR_inr {b : List Int} {most : Int} {n : Nat} {T : List Tok} {p : Nat} {e : Int} (h : storedR b most n T p = .inr e) : e ≠ 0 := by
  unfold storedR at h
  by_cases c1 : 8 * b.length < 8 * ra p + 32
  · rw [if_pos c1] at h; injection h with h; omega
  · rw [if_neg c1] at h
    by_cases c2 : bitsAt b (8 * ra p) 16 ^^^ bitsAt b (8 * ra p + 16) 16 ≠ 65535
    · rw [if_pos c2] at h; injection h with h; omega
    · rw [if_neg c2] at h
      by_cases c3 : b.length < ra p + 4 + bitsAt b (8 * ra p) 16
      · rw [if_pos c3] at h; injection h with h; omega
      · rw [if_neg c3] at h
        by_cases c4 : ((n + bitsAt b (8 * ra p) 16 : Nat) : Int) > most
        · rw [if_pos c4] at h; injection h with h; omega
        · rw [if_neg c4] at h; cases h
theorem fewR_lim {b : List Int} : ∀ (l few : List Int) (p : Nat), p ≤ 8 * b.length → ∀ (few' : List Int) (p' : Nat), fewR b l few p = .inl (few', p') → p ≤ p' ∧ p' ≤ 8 * b.length ∧ few'.length = few.length
  | [], few, p, hp, few', p', h => by
    injection h with h; injection h with ha hb
    subst ha hb
    exact ⟨Nat.le_refl _, hp, rfl⟩
  | a :: l, few, p, hp, few', p', h => by
    unfold fewR at h
    by_cases c : 8 * b.length < p + 3
    · rw [if_pos c] at h; cases h
    · rw [if_neg c] at h
      obtain ⟨h1, h2, h3⟩ := fewR_lim l _ (p + 3) (by omega) few' p' h
      exact ⟨by omega, h2, by rw [h3, List.length_set]⟩
theorem fewR_inr {b : List Int} : ∀ (l few : List Int) (p : Nat) (e : Int), fewR b l few p = .inr e → e = 6
  | [], few, p, e, h => by cases h
  | a :: l, few, p, e, h => by
    unfold fewR at h
    by_cases c : 8 * b.length < p + 3
    · rw [if_pos c] at h; injection h with h; exact h.symm
    · rw [if_neg c] at h; exact fewR_inr l _ (p + 3) e h
theorem lensR_inr {few b : List Int} {all : Nat} : ∀ (k : Nat) (o : List Int) (p : Nat) (e : Int), lensR few b all k o p = .inr e → e ≠ 0
  | 0, _, _, e, h => by injection h with h; omega
  | k + 1, o, p, e, h => by
    unfold lensR at h
    by_cases c : all ≤ o.length
    · rw [if_pos c] at h; cases h
    · rw [if_neg c] at h
      cases hR : lenR few b all o p with
      | inr e => rw [hR] at h; injection h with h; subst h; exact lenR_inr hR
      | inl z =>
        obtain ⟨o1, p1⟩ := z
        rw [hR] at h
        exact lensR_inr k o1 p1 e h
theorem tabsR_inv {b : List Int} {most : Int} {n : Nat} {T : List Tok} {s : Nat} {l : List Int} {p : Nat} (hp : p ≤ 8 * b.length) (hI : Inv most n T) {n' : Nat} {T' : List Tok} {p' : Nat} (h : tabsR b most n T s l p = .inl (n', T', p')) : p < p' ∧ p' ≤ 8 * b.length ∧ Inv most n' T' := by
  unfold tabsR at h
  by_cases c1 : l.getD 256 0 = 0
  · rw [if_pos c1] at h; cases h
  · rw [if_neg c1] at h
    by_cases c2 : errM (l.take s) ≠ 0
    · rw [if_pos c2] at h; cases h
    · rw [if_neg c2] at h
      by_cases c3 : errM (l.drop s) ≠ 0
      · rw [if_pos c3] at h; cases h
      · rw [if_neg c3] at h
        exact wordsR_inv _ n T p hp hI n' T' p' h
theorem tabsR_inr {b : List Int} {most : Int} {n : Nat} {T : List Tok} {s : Nat} {l : List Int} {p : Nat} {e : Int} (h : tabsR b most n T s l p = .inr e) : e ≠ 0 := by
  unfold tabsR at h
  by_cases c1 : l.getD 256 0 = 0
  · rw [if_pos c1] at h; injection h with h; omega
  · rw [if_neg c1] at h
    by_cases c2 : errM (l.take s) ≠ 0
    · rw [if_pos c2] at h; injection h with h; subst h; exact c2
    · rw [if_neg c2] at h
      by_cases c3 : errM (l.drop s) ≠ 0
      · rw [if_pos c3] at h; injection h with h; subst h; exact c3
      · rw [if_neg c3] at h
        exact wordsR_inr _ n T p e h
theorem ownR_inv {b : List Int} {most : Int} {n : Nat} {T : List Tok} {p : Nat} (hI : Inv most n T) {n' : Nat} {T' : List Tok} {p' : Nat} (h : ownR b most n T p = .inl (n', T', p')) : p < p' ∧ p' ≤ 8 * b.length ∧ Inv most n' T' := by
  unfold ownR at h
  by_cases c1 : 8 * b.length < p + 14
  · rw [if_pos c1] at h; cases h
  · rw [if_neg c1] at h
    by_cases c2 : 29 < bitsAt b p 5 ∨ 29 < bitsAt b (p + 5) 5
    · rw [if_pos c2] at h; cases h
    · rw [if_neg c2] at h
      cases hf : fewR b (ord19.take (bitsAt b (p + 10) 4 + 4)) (List.replicate 19 0) (p + 14) with
      | inr e => rw [hf] at h; cases h
      | inl z =>
        obtain ⟨few, p1⟩ := z
        rw [hf] at h
        dsimp only at h
        obtain ⟨f1, f2, f3⟩ := fewR_lim _ _ (p + 14) (by omega) few p1 hf
        by_cases c3 : errM few ≠ 0
        · rw [if_pos c3] at h; cases h
        · rw [if_neg c3] at h
          cases hl : lensR few b (bitsAt b p 5 + 257 + (bitsAt b (p + 5) 5 + 1)) FU [] p1 with
          | inr e => rw [hl] at h; cases h
          | inl z =>
            obtain ⟨l, p2⟩ := z
            rw [hl] at h
            dsimp only at h
            obtain ⟨g1, g2, g3⟩ := lensR_lim _ _ _ f2 (Nat.zero_le _) l p2 hl
            obtain ⟨k1, k2, k3⟩ := tabsR_inv g2 hI h
            exact ⟨by omega, k2, k3⟩
theorem ownR_inr {b : List Int} {most : Int} {n : Nat} {T : List Tok} {p : Nat} {e : Int} (h : ownR b most n T p = .inr e) : e ≠ 0 := by
  unfold ownR at h
  by_cases c1 : 8 * b.length < p + 14
  · rw [if_pos c1] at h; injection h with h; omega
  · rw [if_neg c1] at h
    by_cases c2 : 29 < bitsAt b p 5 ∨ 29 < bitsAt b (p + 5) 5
    · rw [if_pos c2] at h; injection h with h; omega
    · rw [if_neg c2] at h
      cases hf : fewR b (ord19.take (bitsAt b (p + 10) 4 + 4)) (List.replicate 19 0) (p + 14) with
      | inr e => rw [hf] at h; injection h with h; have := fewR_inr _ _ _ _ hf; omega
      | inl z =>
        obtain ⟨few, p1⟩ := z
        rw [hf] at h
        dsimp only at h
        by_cases c3 : errM few ≠ 0
        · rw [if_pos c3] at h; injection h with h; subst h; exact c3
        · rw [if_neg c3] at h
          cases hl : lensR few b (bitsAt b p 5 + 257 + (bitsAt b (p + 5) 5 + 1)) FU [] p1 with
          | inr e => rw [hl] at h; injection h with h; subst h; exact lensR_inr _ _ _ _ hl
          | inl z =>
            obtain ⟨l, p2⟩ := z
            rw [hl] at h
            exact tabsR_inr h
theorem kindR_inv {b : List Int} (hb : IsB b) {most : Int} {kind n : Nat} {T : List Tok} {p : Nat} (hp : p ≤ 8 * b.length) (hI : Inv most n T) {n' : Nat} {T' : List Tok} {p' : Nat} (h : kindR b most kind n T p = .inl (n', T', p')) : p < p' ∧ p' ≤ 8 * b.length ∧ Inv most n' T' := by
  unfold kindR at h
  by_cases c1 : kind = 0
  · rw [if_pos c1] at h; exact storedR_inv hb hI h
  · rw [if_neg c1] at h
    by_cases c2 : kind = 1
    · rw [if_pos c2] at h; exact wordsR_inv _ n T p hp hI n' T' p' h
    · rw [if_neg c2] at h
      by_cases c3 : kind = 2
      · rw [if_pos c3] at h; exact ownR_inv hI h
      · rw [if_neg c3] at h; cases h
theorem kindR_inr {b : List Int} {most : Int} {kind n : Nat} {T : List Tok} {p : Nat} {e : Int} (h : kindR b most kind n T p = .inr e) : e ≠ 0 := by
  unfold kindR at h
  by_cases c1 : kind = 0
  · rw [if_pos c1] at h; exact storedR_inr h
  · rw [if_neg c1] at h
    by_cases c2 : kind = 1
    · rw [if_pos c2] at h; exact wordsR_inr _ n T p e h
    · rw [if_neg c2] at h
      by_cases c3 : kind = 2
      · rw [if_pos c3] at h; exact ownR_inr h
      · rw [if_neg c3] at h; injection h with h; omega
theorem blocksR_inv {b : List Int} (hb : IsB b) {most : Int} : ∀ (k n : Nat) (T : List Tok) (p : Nat), p ≤ 8 * b.length → Inv most n T → ∀ (n' : Nat) (T' : List Tok) (p' : Nat), blocksR b most k n T p = .inl (n', T', p') → p < p' ∧ p' ≤ 8 * b.length ∧ Inv most n' T'
  | 0, _, _, _, _, _, _, _, _, h => by cases h
  | k + 1, n, T, p, hp, hI, n', T', p', h => by
    unfold blocksR at h
    by_cases c1 : 8 * b.length < p + 3
    · rw [if_pos c1] at h; cases h
    · rw [if_neg c1] at h
      cases hk : kindR b most (bitsAt b (p + 1) 2) n T (p + 3) with
      | inr e => rw [hk] at h; cases h
      | inl z =>
        obtain ⟨n1, T1, p1⟩ := z
        rw [hk] at h
        dsimp only at h
        obtain ⟨g1, g2, g3⟩ := kindR_inv hb (by omega) hI hk
        by_cases c2 : bitsAt b p 1 = 1
        · rw [if_pos c2] at h
          injection h with h; injection h with ha h; injection h with hb' hc
          subst ha hb' hc
          exact ⟨by omega, g2, g3⟩
        · rw [if_neg c2] at h
          obtain ⟨k1, k2, k3⟩ := blocksR_inv hb k n1 T1 p1 g2 g3 n' T' p' h
          exact ⟨by omega, k2, k3⟩
theorem blocksR_inr {b : List Int} {most : Int} : ∀ (k n : Nat) (T : List Tok) (p : Nat) (e : Int), blocksR b most k n T p = .inr e → e ≠ 0
  | 0, _, _, _, e, h => by injection h with h; omega
  | k + 1, n, T, p, e, h => by
    unfold blocksR at h
    by_cases c1 : 8 * b.length < p + 3
    · rw [if_pos c1] at h; injection h with h; omega
    · rw [if_neg c1] at h
      cases hk : kindR b most (bitsAt b (p + 1) 2) n T (p + 3) with
      | inr e => rw [hk] at h; injection h with h; subst h; exact kindR_inr hk
      | inl z =>
        obtain ⟨n1, T1, p1⟩ := z
        rw [hk] at h
        dsimp only at h
        by_cases c2 : bitsAt b p 1 = 1
        · rw [if_pos c2] at h; cases h
        · rw [if_neg c2] at h; exact blocksR_inr k n1 T1 p1 e h
end Go.Ev.Inflate
namespace Go.Ev.Inflate

theorem l21_2_spec {ord : List Int} (hord : ∀ a ∈ ord, 0 ≤ a ∧ a < 19) (hol : ord.length ≤ 19) {b : List Int} (hb : IsB b) (hbl : b.length ≤ 100000) (s d n most : Int) (T : List Tok) : ∀ (k i p : Nat) (few : List Int), ord.length < i + k → i ≤ ord.length → p ≤ 8 * b.length → few.length = 19 →
    (match fewR b (ord.drop i) few p with
    | .inl (few', p') => loopN g21_2 o21_2 b21_2 k (s, d, ord, ((ord.length : Nat) : Int), (i : Int), n, most, b, ((ra p : Nat) : Int), ((rw' b p : Nat) : Int), ((rm p : Nat) : Int), few, T, ()) = some (.inl (s, d, n, most, b, ((ra p' : Nat) : Int), ((rw' b p' : Nat) : Int), ((rm p' : Nat) : Int), few', T, ()))
    | .inr e => e ≠ 0 ∧ ∃ z, loopN g21_2 o21_2 b21_2 k (s, d, ord, ((ord.length : Nat) : Int), (i : Int), n, most, b, ((ra p : Nat) : Int), ((rw' b p : Nat) : Int), ((rm p : Nat) : Int), few, T, ()) = some (.inr (.inl (e, z)))) := by
  intro k
  induction k with
  | zero => intro i p few h1 h2; exfalso; omega
  | succ k ih =>
    intro i p few h1 h2 h3 h4
    rw [loopN_succ]
    generalize hL : loopN g21_2 o21_2 b21_2 k = L at ih ⊢
    unfold b21_2
    dsimp only
    rcases Nat.lt_or_ge i ord.length with h | h
    · have hm : ord.getD i 0 ∈ ord := by
        rw [List.getD_eq_getElem?_getD, List.getElem?_eq_getElem h]
        exact List.getElem_mem _
      have ha := hord _ hm
      rw [drop_getD h 0, if_pos (by rw [decide_eq_true_eq]; omega), if_pos (by omega), if_pos (by omega), Int.toNat_natCast]
      generalize ord.getD i 0 = x at ha ⊢
      unfold fewR
      by_cases c : 8 * b.length < p + 3
      · have hf := f25_more (b := b) hbl (p := p) (n := 3) h3 (by omega) c
        have hf' : f25 (3, b, ((ra p : Nat) : Int), ((rw' b p : Nat) : Int), ((rm p : Nat) : Int), ()) = _ := hf
        rw [if_pos c, hf', Option.bind_some]
        dsimp only
        rw [if_pos (show ((6 : Int) != 0) = true by decide), if_pos rfl]
        exact ⟨by decide, _, rfl⟩
      · have hf := f25_eqn (b := b) hb hbl (p := p) (n := 3) (by omega) (by omega)
        have hf' : f25 (3, b, ((ra p : Nat) : Int), ((rw' b p : Nat) : Int), ((rm p : Nat) : Int), ()) = _ := hf
        rw [if_neg c, hf', Option.bind_some]
        dsimp only
        rw [if_neg (show ¬ (((0 : Int) != 0) = true) by decide), if_pos ha.1, if_pos (show x < ((few.length : Nat) : Int) by rw [h4]; exact ha.2), if_pos (by rw [List.length_set]), if_pos rfl, Nat.zero_add, Option.bind_some, Sum.elim_inl,
          show IntKind.wrap .i64 ((i : Int) + 1) = ((i + 1 : Nat) : Int) by rw [wrap_i64 (by omega)]; omega]
        exact ih (i + 1) (p + 3) _ (by omega) (by omega) (by omega) (by rw [List.length_set]; exact h4)
    · rw [List.drop_of_length_le h, if_neg (by rw [decide_eq_true_eq]; omega), if_pos rfl, if_pos rfl]
      rfl
theorem numsR_three (b : List Int) (p : Nat) {x y z : Int} : numsR b [x, y, z] p [] =
    if p + x.toNat + y.toNat + z.toNat ≤ 8 * b.length then (some [((bitsAt b p x.toNat : Nat) : Int), ((bitsAt b (p + x.toNat) y.toNat : Nat) : Int), ((bitsAt b (p + x.toNat + y.toNat) z.toNat : Nat) : Int)], p + x.toNat + y.toNat + z.toNat)
    else (none, if p + x.toNat ≤ 8 * b.length then if p + x.toNat + y.toNat ≤ 8 * b.length then p + x.toNat + y.toNat else p + x.toNat else p) := by
  unfold numsR
  by_cases c1 : p + x.toNat ≤ 8 * b.length
  · rw [if_pos c1, if_pos c1]
    unfold numsR
    by_cases c2 : p + x.toNat + y.toNat ≤ 8 * b.length
    · rw [if_pos c2, if_pos c2]
      unfold numsR
      by_cases c3 : p + x.toNat + y.toNat + z.toNat ≤ 8 * b.length
      · rw [if_pos c3, if_pos c3]
        rfl
      · rw [if_neg c3, if_neg c3]
    · rw [if_neg c2, if_neg c2, if_neg (by omega)]
  · rw [if_neg c1, if_neg c1, if_neg (by omega)]

/-! # Tables that are agreed on -/
set_option maxRecDepth 100000 in
theorem f30_fix : f30 () = some (fixL, ()) := by kernel_rfl
set_option maxRecDepth 100000 in
theorem f29_fixL : (match f29 (fixL, ()) with | some (.inr _) => true | _ => false) = true := by kernel_rfl
set_option maxRecDepth 100000 in
theorem f29_fixD : (match f29 (fixD, ()) with | some (.inr _) => true | _ => false) = true := by kernel_rfl
theorem errM_fixL : errM fixL = 0 := by
  have h := f29_fixL
  rw [f29_eqn] at h
  by_cases c : errM fixL = 0
  · exact c
  · rw [if_neg c] at h; cases h
theorem errM_fixD : errM fixD = 0 := by
  have h := f29_fixD
  rw [f29_eqn] at h
  by_cases c : errM fixD = 0
  · exact c
  · rw [if_neg c] at h; cases h
theorem errM_len {l : List Int} (h : errM l = 0) : l.length ≤ 320 := by
  unfold errM at h
  by_cases c : err l = 0
  · exact (err_ok c).1
  · rw [if_neg c] at h; exact absurd h c
theorem ends_of_ZW {l1 l2 b : List Int} {most : Int} {r : (Nat × List Tok × Nat) ⊕ Int} {z : go32_d.D} (h : ZW l1 l2 b most r z) :
    Ends b most r (some (z.1, z.2.1, z.2.2.1, z.2.2.2.1, z.2.2.2.2.1, z.2.2.2.2.2.1, z.2.2.2.2.2.2.1, z.2.2.2.2.2.2.2.2.2.2.2.2.2.2.2.1, ())) := by
  cases r with
  | inl r =>
    obtain ⟨n, T, p⟩ := r
    obtain ⟨h, _⟩ := h
    subst h
    rfl
  | inr e => exact ⟨h.1, _, by rw [h.2]⟩
theorem f20_eqn {b : List Int} (hb : IsB b) (hbl : b.length ≤ 100000) {most : Int} (hm : most ≤ 1048576) {n : Nat} {T : List Tok} (hI : Inv most n T) {p : Nat} (hp : p ≤ 8 * b.length) :
    Ends b most (wordsR fixL fixD b most FU n T p) (f20 ((n : Int), most, b, ((ra p : Nat) : Int), ((rw' b p : Nat) : Int), ((rm p : Nat) : Int), T, ())) := by
  obtain ⟨z, h1, h2⟩ := f32_d_eqn (l1 := fixL) (l2 := fixD) (errM_len errM_fixL) (errM_len errM_fixD) hb hbl hm hp hI.len hI.lim
  have e1 : List.take 1 (List.drop 0 (List.set (List.replicate 1 (0 : Int)) 0 5)) = [5] := rfl
  have h31 : f31 ([5], 32, ()) = some (fixD, ()) := f31_eqn 5 (n := 32) (by decide) (by decide)
  unfold f20
  rw [f30_fix, Option.bind_some]
  dsimp only
  rw [full, f29_eqn, if_pos errM_fixL, Option.bind_some, Sum.elim_inr]
  dsimp only
  rw [if_neg (show ¬ (((0 : Int) != 0) = true) by decide), e1, h31, Option.bind_some]
  dsimp only
  rw [full, f29_eqn, if_pos errM_fixD, Option.bind_some, Sum.elim_inr]
  dsimp only
  rw [if_neg (show ¬ (((0 : Int) != 0) = true) by decide), if_pos rfl, if_pos rfl, if_pos rfl, h1, Option.bind_some, if_pos rfl]
  exact ends_of_ZW h2
end Go.Ev.Inflate
namespace Go.Ev.Inflate

/-! # A block with tables of its own -/
theorem ord_eq (m : Nat) : List.take m (List.drop 0 (List.set (List.set (List.set (List.set (List.set (List.set (List.set (List.set (List.set (List.set (List.set (List.set (List.set (List.set (List.set (List.set (List.set (List.set (List.set (List.replicate 19 (0 : Int)) 0 16) 1 17) 2 18) 3 0) 4 8) 5 7) 6 9) 7 6) 8 10) 9 5) 10 11) 11 4) 12 12) 13 3) 14 13) 15 2) 16 14) 17 1) 18 15)) = ord19.take m := rfl
theorem ord_mem {m : Nat} : ∀ a ∈ ord19.take m, 0 ≤ a ∧ a < 19 := fun a ha => by
  have h : ∀ a ∈ ord19, 0 ≤ a ∧ a < 19 := by decide
  exact h a (List.mem_of_mem_take ha)
set_option maxHeartbeats 4000000 in
theorem f21_eqn {b : List Int} (hb : IsB b) (hbl : b.length ≤ 100000) {most : Int} (hm : most ≤ 1048576) {n : Nat} {T : List Tok} (hI : Inv most n T) {p : Nat} (hp : p ≤ 8 * b.length) :
    Ends b most (ownR b most n T p) (f21 ((n : Int), most, b, ((ra p : Nat) : Int), ((rw' b p : Nat) : Int), ((rm p : Nat) : Int), T, ())) := by
  unfold ownR f21
  dsimp only
  have e1 : List.take 3 (List.drop 0 (List.set (List.set (List.set (List.replicate 3 (0 : Int)) 0 5) 1 5) 2 4)) = [5, 5, 4] := rfl
  rw [if_pos rfl, e1, f18_eqn hb hbl (by intro n hn; rcases List.mem_cons.1 hn with rfl | h; omega; rcases List.mem_cons.1 h with rfl | h; omega; rw [List.mem_singleton] at h; omega) (by decide) _ _ T hp]
  rw [numsR_three b p (x := 5) (y := 5) (z := 4), show Int.toNat 5 = 5 from rfl, show Int.toNat 4 = 4 from rfl, show p + 5 + 5 = p + 10 by omega, show p + 10 + 4 = p + 14 by omega]
  by_cases c1 : 8 * b.length < p + 14
  · rw [if_pos c1, if_neg (show ¬ (p + 14 ≤ 8 * b.length) by omega)]
    dsimp only
    rw [Option.bind_some]
    dsimp only
    rw [if_pos (show ((6 : Int) != 0) = true by decide), if_pos rfl]
    exact ⟨by decide, _, rfl⟩
  · rw [if_neg c1, if_pos (show p + 14 ≤ 8 * b.length by omega)]
    dsimp only
    rw [Option.bind_some]
    dsimp only
    have b0 := bitsAt_lt b p 5
    have b1 := bitsAt_lt b (p + 5) 5
    have b2 := bitsAt_lt b (p + 10) 4
    generalize bitsAt b p 5 = v0 at b0 ⊢
    generalize bitsAt b (p + 5) 5 = v1 at b1 ⊢
    generalize bitsAt b (p + 10) 4 = v2 at b2 ⊢
    have g0 : ([(v0 : Int), (v1 : Int), (v2 : Int)] : List Int).getD 0 0 = (v0 : Int) := rfl
    have g1 : ([(v0 : Int), (v1 : Int), (v2 : Int)] : List Int).getD 1 0 = (v1 : Int) := rfl
    have g2 : ([(v0 : Int), (v1 : Int), (v2 : Int)] : List Int).getD 2 0 = (v2 : Int) := rfl
    have hl3 : ((List.length [(v0 : Int), (v1 : Int), (v2 : Int)] : Nat) : Int) = 3 := rfl
    have w0 : IntKind.wrap .i64 (IntKind.wrap .i64 ((v0 : Int) + 256) + 1) = ((v0 + 257 : Nat) : Int) := by rw [wrap_i64 (n := (v0 : Int) + 256) (by omega), wrap_i64 (by omega)]; omega
    have w1 : IntKind.wrap .i64 ((v1 : Int) + 1) = ((v1 + 1 : Nat) : Int) := by rw [wrap_i64 (by omega)]; omega
    have w2 : IntKind.wrap .i64 ((v2 : Int) + 4) = ((v2 + 4 : Nat) : Int) := by rw [wrap_i64 (by omega)]; omega
    rw [g0, g1, g2, hl3, w0, w1, w2, if_neg (show ¬ (((0 : Int) != 0) = true) by decide), if_pos (show (0 : Int) < 3 by decide), if_pos (show (1 : Int) < 3 by decide)]
    by_cases c2 : 29 < v0 ∨ 29 < v1
    · rw [if_pos c2]
      by_cases c3 : 29 < v0
      · rw [if_pos (show decide (((v0 + 257 : Nat) : Int) > 286) = true by rw [decide_eq_true_eq]; omega), if_pos rfl]
        exact ⟨by decide, _, rfl⟩
      · rw [if_neg (show ¬ (decide (((v0 + 257 : Nat) : Int) > 286) = true) by rw [decide_eq_true_eq]; omega), if_pos (show decide (((v1 + 1 : Nat) : Int) > 30) = true by rw [decide_eq_true_eq]; omega), if_pos rfl]
        exact ⟨by decide, _, rfl⟩
    · rw [if_neg c2, if_neg (show ¬ (decide (((v0 + 257 : Nat) : Int) > 286) = true) by rw [decide_eq_true_eq]; omega), if_neg (show ¬ (decide (((v1 + 1 : Nat) : Int) > 30) = true) by rw [decide_eq_true_eq]; omega),
        if_pos (show (2 : Int) < 3 by decide), if_pos (show (0 : Int) ≤ ((v2 + 4 : Nat) : Int) by omega), if_pos (show ((v2 + 4 : Nat) : Int) ≤ 19 by omega), if_pos rfl, Int.toNat_natCast, Nat.sub_zero, ord_eq]
      have hol : (ord19.take (v2 + 4)).length = v2 + 4 := by
        rw [List.length_take, show ord19.length = 19 from rfl]; omega
      have h := l21_2_spec (ord := ord19.take (v2 + 4)) ord_mem (by omega) hb hbl ((v0 + 257 : Nat) : Int) ((v1 + 1 : Nat) : Int) (n : Int) most T FU 0 (p + 14) (List.replicate 19 0) (by unfold FU; omega) (Nat.zero_le _) (by omega) (List.length_replicate ..)
      rw [hol, List.drop_zero] at h
      have e0 : ((0 : Nat) : Int) = 0 := rfl
      rw [e0] at h
      have hlim := fun few' p' => fewR_lim (b := b) (ord19.take (v2 + 4)) (List.replicate 19 0) (p + 14) (by omega) few' p'
      rw [show l21_2 = loopN g21_2 o21_2 b21_2 FU from rfl]
      generalize fewR b (ord19.take (v2 + 4)) (List.replicate 19 0) (p + 14) = r at h hlim ⊢
      cases r with
      | inr e =>
        obtain ⟨h0, z, hz⟩ := h
        rw [hz, Option.bind_some, Sum.elim_inr, Sum.elim_inl]
        dsimp only
        rw [if_pos rfl]
        exact ⟨h0, _, rfl⟩
      | inl r =>
        obtain ⟨few, p1⟩ := r
        obtain ⟨f1, f2, f3⟩ := hlim few p1 rfl
        dsimp only at h ⊢
        rw [h, Option.bind_some, Sum.elim_inl]
        dsimp only
        rw [if_pos rfl, if_pos rfl]
        unfold b21_1
        dsimp only
        rw [full, f29_eqn]
        by_cases c4 : errM few ≠ 0
        · rw [if_pos c4, if_neg c4, Option.bind_some, Sum.elim_inl, if_pos rfl, Option.bind_some, Sum.elim_inl]
          dsimp only
          rw [if_pos (bne_iff_ne.2 c4), if_pos rfl]
          exact ⟨c4, _, rfl⟩
        · have c4' : errM few = 0 := Decidable.not_not.1 c4
          have hfl := errM_len c4'
          rw [if_neg c4, if_pos c4', Option.bind_some, Sum.elim_inr, if_pos rfl, if_pos rfl, Option.bind_some, Sum.elim_inr, Sum.elim_inl]
          dsimp only
          have w3 : IntKind.wrap .i64 (((v0 + 257 : Nat) : Int) + ((v1 + 1 : Nat) : Int)) = ((v0 + 257 + (v1 + 1) : Nat) : Int) := by rw [wrap_i64 (by omega)]; omega
          obtain ⟨z, hz, hZ⟩ := f33_b_eqn hfl hb hbl (all := v0 + 257 + (v1 + 1)) (by omega) (n : Int) most T f2
          rw [if_neg (show ¬ (((0 : Int) != 0) = true) by decide), if_pos rfl, if_pos rfl, w3, hz, Option.bind_some]
          have hlim := fun l p2 => lensR_lim (few := few) (b := b) (all := v0 + 257 + (v1 + 1)) FU [] p1 f2 (Nat.zero_le _) l p2
          generalize lensR few b (v0 + 257 + (v1 + 1)) FU [] p1 = r at hZ hlim ⊢
          cases r with
          | inr e =>
            obtain ⟨zo, ze, zr⟩ := z
            obtain ⟨h0, h1⟩ := hZ
            dsimp only at h1 ⊢
            subst h1
            rw [if_pos (bne_iff_ne.2 h0), if_pos rfl]
            exact ⟨h0, _, rfl⟩
          | inl r =>
            obtain ⟨l, p2⟩ := r
            obtain ⟨k1, k2, k3⟩ := hlim l p2 rfl
            have hZ' : z = _ := hZ
            subst hZ'
            dsimp only
            unfold tabsR
            rw [if_neg (show ¬ (((0 : Int) != 0) = true) by decide), if_pos (show (256 : Int) < ((l.length : Nat) : Int) by rw [k3]; omega)]
            by_cases c5 : l.getD 256 0 = 0
            · rw [if_pos c5, if_pos (show (l.getD 256 0 == 0) = true from beq_iff_eq.2 c5), if_pos rfl]
              exact ⟨by decide, _, rfl⟩
            · rw [if_neg c5, if_neg (show ¬ ((l.getD 256 0 == 0) = true) from fun h => c5 (beq_iff_eq.1 h)), if_pos (show (0 : Int) ≤ ((v0 + 257 : Nat) : Int) by omega), if_pos (show ((v0 + 257 : Nat) : Int) ≤ ((l.length : Nat) : Int) by rw [k3]; omega), Int.toNat_natCast, f29_eqn]
              by_cases c6 : errM (l.take (v0 + 257)) ≠ 0
              · rw [if_pos c6, if_neg c6, Option.bind_some, Sum.elim_inl]
                dsimp only
                rw [if_pos (bne_iff_ne.2 c6), if_pos rfl]
                exact ⟨c6, _, rfl⟩
              · have c6' : errM (l.take (v0 + 257)) = 0 := Decidable.not_not.1 c6
                rw [if_neg c6, if_pos c6', Option.bind_some, Sum.elim_inr]
                dsimp only
                rw [if_neg (show ¬ (((0 : Int) != 0) = true) by decide), if_pos (show (0 : Int) ≤ ((v0 + 257 : Nat) : Int) by omega), if_pos (show ((v0 + 257 : Nat) : Int) ≤ ((l.length : Nat) : Int) by rw [k3]; omega), f29_eqn]
                by_cases c7 : errM (l.drop (v0 + 257)) ≠ 0
                · rw [if_pos c7, if_neg c7, Option.bind_some, Sum.elim_inl]
                  dsimp only
                  rw [if_pos (bne_iff_ne.2 c7), if_pos rfl]
                  exact ⟨c7, _, rfl⟩
                · have c7' : errM (l.drop (v0 + 257)) = 0 := Decidable.not_not.1 c7
                  obtain ⟨z, h1, h2⟩ := f32_d_eqn (errM_len c6') (errM_len c7') hb hbl hm k2 hI.len hI.lim
                  rw [if_neg c7, if_pos c7', Option.bind_some, Sum.elim_inr]
                  dsimp only
                  rw [if_neg (show ¬ (((0 : Int) != 0) = true) by decide), if_pos rfl, if_pos rfl, if_pos rfl, h1, Option.bind_some, if_pos rfl]
                  exact ends_of_ZW h2

/-! # Blocks -/
theorem b11_2_eqn {b : List Int} (hb : IsB b) (hbl : b.length ≤ 100000) {most : Int} (hm : most ≤ 1048576) {n : Nat} {T : List Tok} (hI : Inv most n T) {p : Nat} (hp : p ≤ 8 * b.length) (v0 kind : Nat) (b' : List Int) :
    (match kindR b most kind n T p with
    | .inl (n', T', p') => b11_2 (b', [(v0 : Int), (kind : Int)], (n : Int), most, b, ((ra p : Nat) : Int), ((rw' b p : Nat) : Int), ((rm p : Nat) : Int), T, ()) = some (.inl (b', [(v0 : Int), (kind : Int)], 0, (n' : Int), most, b, ((ra p' : Nat) : Int), ((rw' b p' : Nat) : Int), ((rm p' : Nat) : Int), T', ()))
    | .inr e => e ≠ 0 ∧ ∃ z, b11_2 (b', [(v0 : Int), (kind : Int)], (n : Int), most, b, ((ra p : Nat) : Int), ((rw' b p : Nat) : Int), ((rm p : Nat) : Int), T, ()) = some (.inl (b', [(v0 : Int), (kind : Int)], e, z))) := by
  have g1 : ([(v0 : Int), (kind : Int)] : List Int).getD 1 0 = (kind : Int) := rfl
  have hl2 : ((List.length [(v0 : Int), (kind : Int)] : Nat) : Int) = 2 := rfl
  unfold kindR b11_2
  dsimp only
  rw [g1, hl2]
  by_cases c0 : kind = 0
  · have h := f19_eqn hb hbl hI.lim hm hI.len hp
    rw [if_pos c0]
    rw [if_pos (show (1 : Int) < 2 by decide), if_pos (show ((kind : Int) == 0) = true by rw [beq_iff_eq]; omega), if_pos rfl]
    generalize f19 ((n : Int), most, b, ((ra p : Nat) : Int), ((rw' b p : Nat) : Int), ((rm p : Nat) : Int), T, ()) = X at h ⊢
    generalize storedR b most n T p = r at h ⊢
    cases r with
    | inl r =>
      obtain ⟨n', T', p'⟩ := r
      have h' : X = _ := h
      subst h'
      rw [Option.bind_some]
      dsimp only
      rw [if_pos rfl]
    | inr e =>
      obtain ⟨h0, z, h'⟩ := h
      subst h'
      rw [Option.bind_some]
      dsimp only
      rw [if_pos rfl]
      exact ⟨h0, _, rfl⟩
  · rw [if_neg c0]
    by_cases c1 : kind = 1
    · have h := f20_eqn hb hbl hm hI hp
      rw [if_pos c1]
      rw [if_pos (show (1 : Int) < 2 by decide), if_neg (show ¬ (((kind : Int) == 0) = true) by rw [beq_iff_eq]; omega), if_pos (show ((kind : Int) == 1) = true by rw [beq_iff_eq]; omega), if_pos rfl]
      generalize f20 ((n : Int), most, b, ((ra p : Nat) : Int), ((rw' b p : Nat) : Int), ((rm p : Nat) : Int), T, ()) = X at h ⊢
      generalize wordsR fixL fixD b most FU n T p = r at h ⊢
      cases r with
      | inl r =>
        obtain ⟨n', T', p'⟩ := r
        have h' : X = _ := h
        subst h'
        rw [Option.bind_some]
        dsimp only
        rw [if_pos rfl]
      | inr e =>
        obtain ⟨h0, z, h'⟩ := h
        subst h'
        rw [Option.bind_some]
        dsimp only
        rw [if_pos rfl]
        exact ⟨h0, _, rfl⟩
    · rw [if_neg c1]
      by_cases c2 : kind = 2
      · have h := f21_eqn hb hbl hm hI hp
        rw [if_pos c2]
        rw [if_pos (show (1 : Int) < 2 by decide), if_neg (show ¬ (((kind : Int) == 0) = true) by rw [beq_iff_eq]; omega), if_neg (show ¬ (((kind : Int) == 1) = true) by rw [beq_iff_eq]; omega), if_pos (show ((kind : Int) == 2) = true by rw [beq_iff_eq]; omega), if_pos rfl]
        generalize f21 ((n : Int), most, b, ((ra p : Nat) : Int), ((rw' b p : Nat) : Int), ((rm p : Nat) : Int), T, ()) = X at h ⊢
        generalize ownR b most n T p = r at h ⊢
        cases r with
        | inl r =>
          obtain ⟨n', T', p'⟩ := r
          have h' : X = _ := h
          subst h'
          rw [Option.bind_some]
          dsimp only
          rw [if_pos rfl]
        | inr e =>
          obtain ⟨h0, z, h'⟩ := h
          subst h'
          rw [Option.bind_some]
          dsimp only
          rw [if_pos rfl]
          exact ⟨h0, _, rfl⟩
      · rw [if_neg c2, if_pos (show (1 : Int) < 2 by decide), if_neg (show ¬ (((kind : Int) == 0) = true) by rw [beq_iff_eq]; omega), if_neg (show ¬ (((kind : Int) == 1) = true) by rw [beq_iff_eq]; omega), if_neg (show ¬ (((kind : Int) == 2) = true) by rw [beq_iff_eq]; omega), if_pos rfl]
        exact ⟨by decide, _, rfl⟩
theorem l11_1_spec {b : List Int} (hb : IsB b) (hbl : b.length ≤ 100000) {most : Int} (hm : most ≤ 1048576) : ∀ (k n p : Nat) (T : List Tok), 8 * b.length < p + k → p ≤ 8 * b.length → Inv most n T →
    (match blocksR b most k n T p with
    | .inl (n', T', p') => loopN g11_1 o11_1 b11_1 k (b, (n : Int), most, b, ((ra p : Nat) : Int), ((rw' b p : Nat) : Int), ((rm p : Nat) : Int), T, ()) = some (.inr (.inl (b, (n' : Int), most, b, ((ra p' : Nat) : Int), ((rw' b p' : Nat) : Int), ((rm p' : Nat) : Int), T', ())))
    | .inr e => loopN g11_1 o11_1 b11_1 k (b, (n : Int), most, b, ((ra p : Nat) : Int), ((rw' b p : Nat) : Int), ((rm p : Nat) : Int), T, ()) = some (.inl ([], 0, e, ()))) := by
  intro k
  induction k with
  | zero => intro n p T h1 h2; exfalso; omega
  | succ k ih =>
    intro n p T h1 h2 hI
    rw [loopN_succ]
    generalize hL : loopN g11_1 o11_1 b11_1 k = L at ih ⊢
    unfold blocksR b11_1
    dsimp only
    have e1 : List.take 2 (List.drop 0 (List.set (List.set (List.replicate 2 (0 : Int)) 0 1) 1 2)) = [1, 2] := rfl
    rw [if_pos rfl, e1, f18_eqn hb hbl (by intro n hn; rcases List.mem_cons.1 hn with rfl | h; omega; rw [List.mem_singleton] at h; omega) (by decide) _ _ T h2]
    rw [numsR_two b p (x := 1) (y := 2), show Int.toNat 1 = 1 from rfl, show Int.toNat 2 = 2 from rfl, show p + 1 + 2 = p + 3 by omega]
    by_cases c1 : 8 * b.length < p + 3
    · rw [if_pos c1, if_neg (show ¬ (p + 3 ≤ 8 * b.length) by omega)]
      dsimp only
      rw [Option.bind_some]
      dsimp only
      rw [if_pos (show ((6 : Int) != 0) = true by decide)]
      rfl
    · have g0 : p + 3 ≤ 8 * b.length := by omega
      rw [if_neg c1, if_pos g0]
      dsimp only
      rw [Option.bind_some]
      dsimp only
      rw [if_neg (show ¬ (((0 : Int) != 0) = true) by decide), if_pos rfl]
      have h := b11_2_eqn hb hbl hm hI g0 (bitsAt b p 1) (bitsAt b (p + 1) 2) b
      have hlim := fun n' T' p' => kindR_inv (most := most) (kind := bitsAt b (p + 1) 2) hb g0 hI (n' := n') (T' := T') (p' := p')
      generalize kindR b most (bitsAt b (p + 1) 2) n T (p + 3) = r at h hlim ⊢
      generalize bitsAt b (p + 1) 2 = kind at h ⊢
      generalize bitsAt b p 1 = v0 at h ⊢
      cases r with
      | inr e =>
        obtain ⟨h0, z, hz⟩ := h
        rw [hz, Option.bind_some, Sum.elim_inl]
        dsimp only
        rw [if_pos (bne_iff_ne.2 h0)]
        rfl
      | inl r =>
        obtain ⟨n1, T1, p1⟩ := r
        obtain ⟨k1, k2, k3⟩ := hlim n1 T1 p1 rfl
        dsimp only at h ⊢
        have g1 : ([(v0 : Int), (kind : Int)] : List Int).getD 0 0 = (v0 : Int) := rfl
        have hl2 : ((List.length [(v0 : Int), (kind : Int)] : Nat) : Int) = 2 := rfl
        rw [h, Option.bind_some, Sum.elim_inl]
        dsimp only
        rw [if_neg (show ¬ (((0 : Int) != 0) = true) by decide), g1, hl2, if_pos (show (0 : Int) < 2 by decide)]
        by_cases c2 : v0 = 1
        · rw [if_pos c2, if_pos (show ((v0 : Int) == 1) = true by rw [beq_iff_eq]; omega), if_pos rfl]
          rfl
        · rw [if_neg c2, if_neg (show ¬ (((v0 : Int) == 1) = true) by rw [beq_iff_eq]; omega), if_pos rfl, Option.bind_some, Sum.elim_inl]
          exact ih n1 p1 T1 (by omega) k2 k3
theorem f11_eqn {b : List Int} (hb : IsB b) (hbl : b.length ≤ 100000) (most : Int) : f11 (b, most, ()) = some (tokR b most) := by
  unfold tokR
  by_cases c : most < 0 ∨ 1048576 < most
  · rw [if_pos c]
    unfold f11
    dsimp only
    by_cases c1 : most < 0
    · rw [if_pos (decide_eq_true c1)]
    · rw [if_neg (fun h => c1 (of_decide_eq_true h)), if_pos (decide_eq_true (c.resolve_left c1))]
  · rw [if_neg c]
    have h0 : 0 ≤ most := by omega
    have hm : most ≤ 1048576 := by omega
    have h := l11_1_spec hb hbl hm FU 0 0 [] (by unfold FU; omega) (Nat.zero_le _) (Inv.nil h0)
    have hlim := fun n' T' p' => blocksR_inv hb (most := most) FU 0 [] 0 (Nat.zero_le _) (Inv.nil h0) n' T' p'
    generalize blocksR b most FU 0 [] 0 = r at h hlim ⊢
    cases r with
    | inl r =>
      obtain ⟨n, T, p⟩ := r
      exact f11_ends hbl h0 hm (hlim n T p rfl).2.1 h
    | inr e =>
      unfold f11
      dsimp only at h ⊢
      rw [if_neg (by rw [decide_eq_true_eq]; omega), if_neg (by rw [decide_eq_true_eq]; omega), f17_pos hbl, Option.bind_some]
      dsimp only
      rw [show l11_1 = loopN g11_1 o11_1 b11_1 FU from rfl]
      have h' : loopN g11_1 o11_1 b11_1 FU (b, 0, most, b, ((ra 0 : Nat) : Int), ((rw' b 0 : Nat) : Int), ((rm 0 : Nat) : Int), [], ()) = _ := h
      rw [h', Option.bind_some, Sum.elim_inl]
/-- What Tokens answers is so many tokens, or why not. -/
theorem tokR_ok {b : List Int} (hb : IsB b) {most : Int} : ((tokR b most).2.2.1 ≠ 0 ∧ (tokR b most).1 = [] ∧ (tokR b most).2.1 = 0) ∨ ((tokR b most).2.2.1 = 0 ∧ (0 ≤ most ∧ most ≤ 1048576) ∧ ∃ n, Inv most n (tokR b most).1 ∧ 0 ≤ (tokR b most).2.1 ∧ (tokR b most).2.1 ≤ ((b.length : Nat) : Int)) := by
  unfold tokR
  by_cases c : most < 0 ∨ 1048576 < most
  · rw [if_pos c]; exact .inl ⟨by decide, rfl, rfl⟩
  · rw [if_neg c]
    have h0 : 0 ≤ most := by omega
    cases h : blocksR b most FU 0 [] 0 with
    | inr e => exact .inl ⟨blocksR_inr _ _ _ _ _ h, rfl, rfl⟩
    | inl r =>
      obtain ⟨n, T, p⟩ := r
      obtain ⟨g1, g2, g3⟩ := blocksR_inv hb (most := most) FU 0 [] 0 (Nat.zero_le _) (Inv.nil h0) n T p h
      exact .inr ⟨rfl, ⟨h0, by omega⟩, n, g3, by dsimp only; omega, by dsimp only; omega⟩
/-- What Inflate answers. -/
noncomputable def infR (b : List Int) (most : Int) : List Int × Int × Int × Unit := if (tokR b most).2.2.1 ≠ 0 then ([], 0, (tokR b most).2.2.1, ()) else ((expd (tokR b most).1 most).1, (tokR b most).2.1, (expd (tokR b most).1 most).2.1, ())
theorem Inv.small {most : Int} {n : Nat} {T : List Tok} (h : Inv most n T) (hm : most ≤ 1048576) : T.length < 2 ^ 60 := by
  have := h.len
  have := h.lim
  omega
theorem f10_eqn {b : List Int} (hb : IsB b) (hbl : b.length ≤ 100000) (most : Int) : f10 (b, most, ()) = some (infR b most) := by
  unfold f10 infR
  dsimp only
  rw [f11_eqn hb hbl, Option.bind_some]
  rcases tokR_ok hb (most := most) with ⟨h1, _⟩ | ⟨h1, h2, n, h3, _⟩
  · rw [if_pos (bne_iff_ne.2 h1), if_pos h1]
  · rw [if_neg (by rw [h1]; decide), if_neg (by rw [h1]; decide), f7_eqn (h3.small h2.2), Option.bind_some]
/-- Tokens that were told are expanded. -/
theorem Inv.expd {most : Int} (h0 : 0 ≤ most) (hm : most ≤ 1048576) {n : Nat} {T : List Tok} (h : Inv most n T) : ∃ o, exp most T [] = .inl o ∧ o.length = n ∧ Inflate.expd T most = (o, 0, ()) := by
  obtain ⟨o, h1, h2⟩ := h.out
  refine ⟨o, h1, h2, ?_⟩
  unfold Inflate.expd
  rw [if_neg (by rw [h.tok]; rintro (h | h | h) <;> first | omega | cases h), h1]
end Go.Ev.Inflate
namespace Go.Ev.Inflate

/-! # The tokens, expanded -/
theorem tokR_small {b : List Int} (hb : IsB b) {most : Int} : (tokR b most).1.length < 2 ^ 60 := by
  rcases tokR_ok hb (most := most) with ⟨_, h1, _⟩ | ⟨_, h2, n, h3, _⟩
  · rw [h1]; exact Nat.two_pow_pos 60
  · exact h3.small h2.2
theorem infR_ok {b : List Int} (hb : IsB b) {most : Int} :
    ((tokR b most).2.2.1 ≠ 0 ∧ (tokR b most).1 = [] ∧ infR b most = ([], 0, (tokR b most).2.2.1, ())) ∨
    ((tokR b most).2.2.1 = 0 ∧ (0 ≤ most ∧ most ≤ 1048576) ∧ ∃ o, Inv most o.length (tokR b most).1 ∧ exp most (tokR b most).1 [] = .inl o ∧ expd (tokR b most).1 most = (o, 0, ()) ∧ infR b most = (o, (tokR b most).2.1, 0, ()) ∧ (tokR b most).2.1 ≤ ((b.length : Nat) : Int)) := by
  rcases tokR_ok hb (most := most) with ⟨h1, h2, h3⟩ | ⟨h1, h2, n, h3, h4, h5⟩
  · refine .inl ⟨h1, h2, ?_⟩
    unfold infR
    rw [if_pos h1]
  · obtain ⟨o, g1, g2, g3⟩ := h3.expd h2.1 h2.2
    subst g2
    refine .inr ⟨h1, h2, o, h3, g1, g3, ?_, h5⟩
    unfold infR
    rw [if_neg (fun h => h h1), g3]
theorem inflateTokens_pure {x0 : List Int} (hB : IsB x0) (x1 : Int) : f6 (x0, x1, ()) = some (true, ()) := by
  unfold f6
  dsimp only
  by_cases c1 : ((x0.length : Nat) : Int) > 2000
  · rw [if_pos (decide_eq_true c1)]
  · rw [if_neg (fun h => c1 (of_decide_eq_true h))]
    by_cases c2 : x1 < 0
    · rw [if_pos (decide_eq_true c2)]
    · rw [if_neg (fun h => c2 (of_decide_eq_true h))]
      by_cases c3 : x1 > 5000
      · rw [if_pos (decide_eq_true c3)]
      · rw [if_neg (fun h => c3 (of_decide_eq_true h)), f11_eqn hB (by omega), Option.bind_some]
        rw [f7_eqn (tokR_small hB), Option.bind_some, f10_eqn hB (by omega), Option.bind_some]
        rcases infR_ok hB (most := x1) with ⟨h1, h2, h3⟩ | ⟨h1, h2, o, h3, h4, h5, h6, h7⟩
        · rw [h3]
          dsimp only
          rw [if_pos (bne_iff_ne.2 h1)]
          unfold b6_1
          rw [awake_true, Option.bind_some]
          dsimp only
          rw [if_pos rfl, if_pos (beq_self_eq_true _), h2]
          rfl
        · rw [h6, h5]
          dsimp only
          rw [if_neg (by rw [h1]; decide), awake_true, Option.bind_some]
          dsimp only
          rw [if_pos (show ((0 : Int) == 0) = true from rfl), if_pos (show ((0 : Int) == 0) = true from rfl), if_pos (beq_self_eq_true _), beq_self_eq_true]
          rfl

/-! # Bytes behind, a greater number -/
theorem bitsAt_append {b : List Int} (r : List Int) {p n : Nat} (h : p + n ≤ 8 * b.length) : bitsAt (b ++ r) p n = bitsAt b p n := by
  unfold bitsAt
  obtain ⟨d, hd⟩ : ∃ d, 8 * b.length = p + (n + d) := ⟨8 * b.length - p - n, by omega⟩
  rw [valB_append, pow256, hd, Nat.pow_add, Nat.pow_add, Nat.mul_assoc, Nat.add_mul_div_left _ _ (Nat.two_pow_pos p), Nat.mul_assoc, Nat.add_mul_mod_self_left]
structure Ext (b c : List Int) (most more : Int) : Prop where
  len : b.length ≤ c.length
  bits : ∀ p n, p + n ≤ 8 * b.length → bitsAt c p n = bitsAt b p n
  bytes : ∀ q v, q + v ≤ b.length → (c.drop q).take v = (b.drop q).take v
  lim : most ≤ more
theorem Ext.append (b : List Int) (r : List Int) (most : Int) : Ext b (b ++ r) most most :=
  ⟨by rw [List.length_append]; omega, fun _ _ h => bitsAt_append r h, fun q v h => by
    rw [List.drop_append_of_le_length (by omega), List.take_append_of_le_length (by rw [List.length_drop]; omega)], Int.le_refl _⟩
theorem Ext.more (b : List Int) {most more : Int} (h : most ≤ more) : Ext b b most more := ⟨Nat.le_refl _, fun _ _ _ => rfl, fun _ _ _ => rfl, h⟩
/-- The answer is the same, or there was too little, or it was too long. -/
def Rel {α : Type} (b c : List Int) (most more : Int) (r r' : α ⊕ Int) : Prop := (b.length < c.length ∧ r = .inr 6) ∨ (most < more ∧ r = .inr 2) ∨ r' = r
theorem Rel.same {α : Type} {b c : List Int} {most more : Int} (r : α ⊕ Int) : Rel b c most more r r := .inr (.inr rfl)
/-- Where there is too little. -/
theorem Rel.short {α : Type} {b c : List Int} {most more : Int} (h : Ext b c most more) {n : Nat} {x y : α ⊕ Int} (g : ¬ 8 * b.length < n → Rel b c most more x y) :
    Rel b c most more (if 8 * b.length < n then .inr 6 else x) (if 8 * c.length < n then .inr 6 else y) := by
  have hl := h.len
  by_cases c1 : 8 * b.length < n
  · rw [if_pos c1]
    rcases Nat.lt_or_ge b.length c.length with h1 | h1
    · exact .inl ⟨h1, rfl⟩
    · rw [if_pos (by omega)]; exact Rel.same _
  · rw [if_neg c1, if_neg (by omega)]
    exact g c1
theorem Rel.iff {α : Type} {b c : List Int} {most more : Int} {P : Prop} [Decidable P] {x y z w : α ⊕ Int} (h1 : P → Rel b c most more x z) (h2 : ¬ P → Rel b c most more y w) :
    Rel b c most more (if P then x else y) (if P then z else w) := by
  by_cases c1 : P
  · rw [if_pos c1, if_pos c1]; exact h1 c1
  · rw [if_neg c1, if_neg c1]; exact h2 c1
theorem readR_ext {b c : List Int} {most more : Int} (h : Ext b c most more) (l : List Int) : ∀ (r n p v : Nat), (b.length < c.length ∧ (readR l b r n p v).1 = some (0, 6)) ∨ readR l c r n p v = readR l b r n p v
  | 0, n, p, v => .inr rfl
  | r + 1, n, p, v => by
    have hl := h.len
    unfold readR
    by_cases c1 : p + 1 ≤ 8 * b.length
    · rw [if_pos c1, if_pos (by omega), h.bits p 1 c1]
      cases look l n (2 * v + bitsAt b p 1) with
      | some s => exact .inr rfl
      | none => exact readR_ext h l r (n + 1) (p + 1) _
    · rw [if_neg c1]
      rcases Nat.lt_or_ge b.length c.length with h1 | h1
      · exact .inl ⟨h1, rfl⟩
      · rw [if_neg (by omega)]; exact .inr rfl
theorem readH_ext {b c : List Int} {most more : Int} (h : Ext b c most more) (l : List Int) (p : Nat) : (b.length < c.length ∧ (readH l b p).2.1 = 6) ∨ readH l c p = readH l b p := by
  unfold readH
  rcases readR_ext h l 15 1 p 0 with ⟨h1, h2⟩ | h1
  · refine .inl ⟨h1, ?_⟩
    generalize readR l b 15 1 p 0 = q at h2
    obtain ⟨o, p'⟩ := q
    dsimp only at h2
    subst h2
    rfl
  · rw [h1]; exact .inr rfl
theorem wordR_ext {b c : List Int} {most more : Int} (h : Ext b c most more) (l1 l2 : List Int) (p : Nat) : Rel b c most more (wordR l1 l2 b p) (wordR l1 l2 c p) := by
  unfold wordR
  rcases readH_ext h l1 p with ⟨h1, h2⟩ | h1
  · rw [if_pos (by rw [h2]; decide), h2]
    exact .inl ⟨h1, rfl⟩
  · rw [h1]
    refine Rel.iff (fun _ => Rel.same _) fun _ => Rel.iff (fun _ => Rel.same _) fun _ => Rel.iff (fun _ => Rel.same _) fun _ => Rel.iff (fun _ => Rel.same _) fun _ => Rel.short h fun g1 => ?_
    rcases readH_ext h l2 ((readH l1 b p).2.2 + (lenB (readH l1 b p).1.toNat).2) with ⟨h3, h4⟩ | h3
    · rw [if_pos (by rw [h4]; decide), h4]
      exact .inl ⟨h3, rfl⟩
    · rw [h3]
      refine Rel.iff (fun _ => Rel.same _) fun _ => Rel.iff (fun _ => Rel.same _) fun _ => Rel.short h fun g2 => ?_
      rw [h.bits _ _ (by omega), h.bits _ _ (by omega)]
      exact Rel.same _
theorem addR_ext {b c : List Int} {most more : Int} (h : Ext b c most more) (t : Tok) (n : Nat) (T : List Tok) : Rel b c most more (addR most t n T) (addR more t n T) := by
  have hl := h.lim
  unfold addR
  refine Rel.iff (fun _ => Rel.same _) fun _ => ?_
  by_cases c1 : (n : Int) + max t.2.1 1 > most
  · rw [if_pos c1]
    by_cases c2 : most < more
    · exact .inr (.inl ⟨c2, rfl⟩)
    · rw [if_pos (by omega)]; exact Rel.same _
  · rw [if_neg c1]
    by_cases c2 : (n : Int) + max t.2.1 1 > more
    · omega
    · rw [if_neg c2]; exact Rel.same _
theorem wordsR_ext {b c : List Int} {most more : Int} (h : Ext b c most more) (l1 l2 : List Int) : ∀ (k n : Nat) (T : List Tok) (p : Nat), Rel b c most more (wordsR l1 l2 b most k n T p) (wordsR l1 l2 c more k n T p)
  | 0, _, _, _ => Rel.same _
  | k + 1, n, T, p => by
    unfold wordsR
    rcases wordR_ext h l1 l2 p with ⟨h1, h2⟩ | ⟨h1, h2⟩ | h1
    · rw [h2]; exact .inl ⟨h1, rfl⟩
    · rw [h2]; exact .inr (.inl ⟨h1, rfl⟩)
    · rw [h1]
      cases wordR l1 l2 b p with
      | inr e => exact Rel.same _
      | inl z =>
        obtain ⟨o, p1⟩ := z
        cases o with
        | none => exact Rel.same _
        | some t =>
          dsimp only
          rcases addR_ext h t n T with ⟨h1, h2⟩ | ⟨h1, h2⟩ | h1
          · rw [h2]; exact .inl ⟨h1, rfl⟩
          · rw [h2]; exact .inr (.inl ⟨h1, rfl⟩)
          · rw [h1]
            cases addR most t n T with
            | inr e => exact Rel.same _
            | inl z =>
              obtain ⟨n1, T1⟩ := z
              exact wordsR_ext h l1 l2 k n1 T1 p1
theorem lenR_ext {b c : List Int} {most more : Int} (h : Ext b c most more) (few : List Int) (all : Nat) (o : List Int) (p : Nat) : Rel b c most more (lenR few b all o p) (lenR few c all o p) := by
  unfold lenR
  rcases readH_ext h few p with ⟨h1, h2⟩ | h1
  · rw [if_pos (by rw [h2]; decide), h2]
    exact .inl ⟨h1, rfl⟩
  · rw [h1]
    refine Rel.iff (fun _ => Rel.same _) fun _ => Rel.iff (fun _ => Rel.same _) fun _ => Rel.iff (fun _ => Rel.same _) fun _ => Rel.short h fun g1 => ?_
    rw [h.bits _ _ (by omega)]
    exact Rel.same _
theorem lensR_ext {b c : List Int} {most more : Int} (h : Ext b c most more) (few : List Int) (all : Nat) : ∀ (k : Nat) (o : List Int) (p : Nat), Rel b c most more (lensR few b all k o p) (lensR few c all k o p)
  | 0, _, _ => Rel.same _
  | k + 1, o, p => by
    unfold lensR
    refine Rel.iff (fun _ => Rel.same _) fun _ => ?_
    rcases lenR_ext h few all o p with ⟨h1, h2⟩ | ⟨h1, h2⟩ | h1
    · rw [h2]; exact .inl ⟨h1, rfl⟩
    · rw [h2]; exact .inr (.inl ⟨h1, rfl⟩)
    · rw [h1]
      cases lenR few b all o p with
      | inr e => exact Rel.same _
      | inl z =>
        obtain ⟨o1, p1⟩ := z
        exact lensR_ext h few all k o1 p1
theorem fewR_ext {b c : List Int} {most more : Int} (h : Ext b c most more) : ∀ (l few : List Int) (p : Nat), Rel b c most more (fewR b l few p) (fewR c l few p)
  | [], _, _ => Rel.same _
  | a :: l, few, p => by
    unfold fewR
    refine Rel.short h fun g => ?_
    rw [h.bits _ _ (by omega)]
    exact fewR_ext h l _ _
theorem tabsR_ext {b c : List Int} {most more : Int} (h : Ext b c most more) (n : Nat) (T : List Tok) (s : Nat) (l : List Int) (p : Nat) : Rel b c most more (tabsR b most n T s l p) (tabsR c more n T s l p) := by
  unfold tabsR
  exact Rel.iff (fun _ => Rel.same _) fun _ => Rel.iff (fun _ => Rel.same _) fun _ => Rel.iff (fun _ => Rel.same _) fun _ => wordsR_ext h _ _ _ _ _ _
theorem ownR_ext {b c : List Int} {most more : Int} (h : Ext b c most more) (n : Nat) (T : List Tok) (p : Nat) : Rel b c most more (ownR b most n T p) (ownR c more n T p) := by
  unfold ownR
  refine Rel.short h fun g => ?_
  rw [h.bits p 5 (by omega), h.bits (p + 5) 5 (by omega), h.bits (p + 10) 4 (by omega)]
  refine Rel.iff (fun _ => Rel.same _) fun _ => ?_
  rcases fewR_ext h (ord19.take (bitsAt b (p + 10) 4 + 4)) (List.replicate 19 0) (p + 14) with ⟨h1, h2⟩ | ⟨h1, h2⟩ | h1
  · rw [h2]; exact .inl ⟨h1, rfl⟩
  · rw [h2]; exact .inr (.inl ⟨h1, rfl⟩)
  · rw [h1]
    cases fewR b (ord19.take (bitsAt b (p + 10) 4 + 4)) (List.replicate 19 0) (p + 14) with
    | inr e => exact Rel.same _
    | inl z =>
      obtain ⟨few, p1⟩ := z
      dsimp only
      refine Rel.iff (fun _ => Rel.same _) fun _ => ?_
      rcases lensR_ext h few (bitsAt b p 5 + 257 + (bitsAt b (p + 5) 5 + 1)) FU [] p1 with ⟨h1, h2⟩ | ⟨h1, h2⟩ | h1
      · rw [h2]; exact .inl ⟨h1, rfl⟩
      · rw [h2]; exact .inr (.inl ⟨h1, rfl⟩)
      · rw [h1]
        cases lensR few b (bitsAt b p 5 + 257 + (bitsAt b (p + 5) 5 + 1)) FU [] p1 with
        | inr e => exact Rel.same _
        | inl z =>
          obtain ⟨l, p2⟩ := z
          exact tabsR_ext h _ _ _ _ _
theorem storedR_ext {b c : List Int} {most more : Int} (h : Ext b c most more) (n : Nat) (T : List Tok) (p : Nat) : Rel b c most more (storedR b most n T p) (storedR c more n T p) := by
  have hl := h.len
  have hm := h.lim
  unfold storedR
  refine Rel.short h fun g => ?_
  rw [h.bits _ _ (by omega), h.bits _ _ (by omega)]
  refine Rel.iff (fun _ => Rel.same _) fun _ => ?_
  generalize bitsAt b (8 * ra p) 16 = v
  by_cases c1 : b.length < ra p + 4 + v
  · rw [if_pos c1]
    rcases Nat.lt_or_ge b.length c.length with h1 | h1
    · exact .inl ⟨h1, rfl⟩
    · rw [if_pos (by omega)]; exact Rel.same _
  · rw [if_neg c1, if_neg (show ¬ (c.length < ra p + 4 + v) by omega), h.bytes _ _ (by omega)]
    by_cases c2 : ((n + v : Nat) : Int) > most
    · rw [if_pos c2]
      by_cases c3 : most < more
      · exact .inr (.inl ⟨c3, rfl⟩)
      · rw [if_pos (by omega)]; exact Rel.same _
    · rw [if_neg c2, if_neg (by omega)]; exact Rel.same _
theorem kindR_ext {b c : List Int} {most more : Int} (h : Ext b c most more) (kind n : Nat) (T : List Tok) (p : Nat) : Rel b c most more (kindR b most kind n T p) (kindR c more kind n T p) := by
  unfold kindR
  exact Rel.iff (fun _ => storedR_ext h _ _ _) fun _ => Rel.iff (fun _ => wordsR_ext h _ _ _ _ _ _) fun _ => Rel.iff (fun _ => ownR_ext h _ _ _) fun _ => Rel.same _
theorem blocksR_ext {b c : List Int} {most more : Int} (h : Ext b c most more) : ∀ (k n : Nat) (T : List Tok) (p : Nat), Rel b c most more (blocksR b most k n T p) (blocksR c more k n T p)
  | 0, _, _, _ => Rel.same _
  | k + 1, n, T, p => by
    unfold blocksR
    refine Rel.short h fun g => ?_
    rw [h.bits _ _ (by omega), h.bits _ _ (by omega)]
    rcases kindR_ext h (bitsAt b (p + 1) 2) n T (p + 3) with ⟨h1, h2⟩ | ⟨h1, h2⟩ | h1
    · rw [h2]; exact .inl ⟨h1, rfl⟩
    · rw [h2]; exact .inr (.inl ⟨h1, rfl⟩)
    · rw [h1]
      cases kindR b most (bitsAt b (p + 1) 2) n T (p + 3) with
      | inr e => exact Rel.same _
      | inl z =>
        obtain ⟨n1, T1, p1⟩ := z
        dsimp only
        exact Rel.iff (fun _ => Rel.same _) fun _ => blocksR_ext h k n1 T1 p1
theorem tokR_ext {b c : List Int} {most more : Int} (h : Ext b c most more) (h0 : 0 ≤ most) (hm : more ≤ 1048576) : (b.length < c.length ∧ (tokR b most).2.2.1 = 6) ∨ (most < more ∧ (tokR b most).2.2.1 = 2) ∨ tokR c more = tokR b most := by
  have hl := h.lim
  unfold tokR
  rw [if_neg (by omega), if_neg (by omega)]
  rcases blocksR_ext h FU 0 [] 0 with ⟨h1, h2⟩ | ⟨h1, h2⟩ | h1
  · rw [h2]; exact .inl ⟨h1, rfl⟩
  · rw [h2]; exact .inr (.inl ⟨h1, rfl⟩)
  · rw [h1]; exact .inr (.inr rfl)
theorem exp_more {most more : Int} (h : most ≤ more) : ∀ (T : List Tok) (out o : List Int), exp most T out = .inl o → exp more T out = .inl o
  | [], _, _, g => g
  | t :: T, out, o, g => by
    rw [exp_cons] at g ⊢
    by_cases c1 : t.2.2 > ((out.length : Nat) : Int)
    · rw [if_pos c1] at g; cases g
    · rw [if_neg c1] at g ⊢
      by_cases c2 : ((out.length : Nat) : Int) + max t.2.1 1 > most
      · rw [if_pos c2] at g; cases g
      · rw [if_neg c2] at g
        rw [if_neg (by omega)]
        exact exp_more h T _ o g
theorem infR_ext {b c : List Int} (hb : IsB b) (hc : IsB c) {most more : Int} (h : Ext b c most more) (h0 : 0 ≤ most) (hm : more ≤ 1048576) : (b.length < c.length ∧ (infR b most).2.2.1 = 6) ∨ (most < more ∧ (infR b most).2.2.1 = 2) ∨ infR c more = infR b most := by
  have hl := h.lim
  rcases infR_ok hb (most := most) with ⟨h1, h2, h3⟩ | ⟨h1, h2, o, h3, h4, h5, h6, h7⟩
  · rw [h3]
    dsimp only
    rcases tokR_ext h h0 hm with g | g | g
    · exact .inl g
    · exact .inr (.inl g)
    · refine .inr (.inr ?_)
      rcases infR_ok hc (most := more) with ⟨k1, k2, k3⟩ | ⟨k1, _⟩
      · rw [k3, g]
      · rw [g] at k1; exact absurd k1 h1
  · rcases tokR_ext h h0 hm with g | g | g
    · rw [h1] at g; exact absurd g.2 (by decide)
    · rw [h1] at g; exact absurd g.2 (by decide)
    · refine .inr (.inr ?_)
      rcases infR_ok hc (most := more) with ⟨k1, _⟩ | ⟨k1, k2, o', k3, k4, k5, k6, k7⟩
      · rw [g] at k1; exact absurd h1 k1
      · rw [g, exp_more hl _ _ _ h4] at k4
        injection k4 with k4
        subst k4
        rw [k6, h6, g]

/-! # The statement -/
theorem b4_1_false {b x : List Int} {n e most : Int} {y2 y3 : List Int × Int × Int × Unit} (h0 : e = 0 → y2 = (x, n, e, ()) ∧ y3 = (x, n, e, ()) ∧ n ≤ ((b.length : Nat) : Int) ∧ ((x.length : Nat) : Int) ≤ most) :
    b4_1 (b, most, x, n, e, y2.1, y2.2.1, y2.2.2.1, y3.1, y3.2.1, y3.2.2.1, ()) = some (.inl (x, n, e, y2.2.2.1, y3.2.2.1, false, ())) := by
  unfold b4_1
  dsimp only
  by_cases c : e = 0
  · obtain ⟨h1, h2, h3, h4⟩ := h0 c
    subst h1 h2
    rw [if_pos (beq_iff_eq.2 c)]
    dsimp only
    rw [if_neg (by simp), if_neg (by simp), if_neg (by simp), if_neg (by simp), if_neg (by simp), if_neg (by simp), if_neg (by rw [decide_eq_true_eq]; omega), decide_eq_false (by omega)]
  · rw [if_neg (fun h => c (beq_iff_eq.1 h))]
theorem b4_2_false {x : List Int} {n e e2 e3 : Int} (h4 : e = 4 → e2 = e ∧ e3 = e) (h2 : e = 2 → e2 = e) :
    b4_2 (x, n, e, e2, e3, ()) = some (.inl (x, n, e, false, ())) := by
  unfold b4_2
  dsimp only
  by_cases c : e = 4
  · obtain ⟨rfl, rfl⟩ := h4 c
    subst c
    rfl
  · rw [if_neg (fun h => c (beq_iff_eq.1 h))]
    by_cases c2 : e = 2
    · have := h2 c2
      subst this
      rw [if_pos (beq_iff_eq.2 c2)]
      simp
    · rw [if_neg (fun h => c2 (beq_iff_eq.1 h))]
theorem inflateRest_pure {x0 x1 : List Int} (hB0 : IsB x0) (hB1 : IsB x1) (x2 x3 : Int) : f4 (x0, x1, x2, x3, ()) = some (true, ()) := by
  unfold f4
  dsimp only
  by_cases c1 : ((x0.length : Nat) : Int) > 2000
  · rw [if_pos (decide_eq_true c1)]
  rw [if_neg (fun h => c1 (of_decide_eq_true h))]
  by_cases c2 : ((x1.length : Nat) : Int) > 200
  · rw [if_pos (decide_eq_true c2)]
  rw [if_neg (fun h => c2 (of_decide_eq_true h))]
  by_cases c3 : x2 < 0
  · rw [if_pos (decide_eq_true c3)]
  rw [if_neg (fun h => c3 (of_decide_eq_true h))]
  by_cases c4 : x2 > 5000
  · rw [if_pos (decide_eq_true c4)]
  rw [if_neg (fun h => c4 (of_decide_eq_true h))]
  by_cases c5 : x3 < 0
  · rw [if_pos (decide_eq_true c5)]
  rw [if_neg (fun h => c5 (of_decide_eq_true h))]
  by_cases c6 : x3 > 5000
  · rw [if_pos (decide_eq_true c6)]
  rw [if_neg (fun h => c6 (of_decide_eq_true h))]
  have hcat : IsB (x0 ++ x1) := hB0.append hB1
  have e1 : List.take 0 (List.drop 0 (List.replicate 0 (0 : Int))) ++ x0 = x0 := rfl
  rw [f10_eqn hB0 (by omega), Option.bind_some, e1, full, full, wrap_i64 (n := x2 + x3) (by omega), if_pos (by omega), if_pos (by omega), f10_eqn hcat (by rw [List.length_append]; omega), Option.bind_some, f10_eqn hB0 (by omega), Option.bind_some]
  have hr := infR_ext hB0 hcat (Ext.append x0 x1 x2) (by omega) (by omega)
  have hm := infR_ext hB0 hB0 (Ext.more x0 (show x2 ≤ x2 + x3 by omega)) (by omega) (by omega)
  have hk : ((infR x0 x2).2.2.1 = 0 → (infR x0 x2).2.1 ≤ ((x0.length : Nat) : Int) ∧ (((infR x0 x2).1.length : Nat) : Int) ≤ x2) ∧ ((infR x0 x2).2.2.1 ≠ 0 → (infR x0 x2).1 = [] ∧ (infR x0 x2).2.1 = 0) := by
    rcases infR_ok hB0 (most := x2) with ⟨h1, h2, h3⟩ | ⟨h1, h2, o, h3, h4, h5, h6, h7⟩
    · rw [h3]
      exact ⟨fun h => absurd h h1, fun _ => ⟨rfl, rfl⟩⟩
    · rw [h6]
      exact ⟨fun _ => ⟨h7, h3.lim⟩, fun h => absurd rfl h⟩
  generalize infR (x0 ++ x1) x2 = y2 at hr ⊢
  generalize infR x0 (x2 + x3) = y3 at hm ⊢
  generalize infR x0 x2 = y1 at hr hm hk ⊢
  obtain ⟨x, n, e, u⟩ := y1
  dsimp only at hr hm hk ⊢
  rw [b4_1_false (fun h => ⟨?_, ?_, (hk.1 h).1, (hk.1 h).2⟩), Option.bind_some, Sum.elim_inl]
  · dsimp only
    rw [if_neg (by decide), b4_2_false (fun h => ⟨?_, ?_⟩) (fun h => ?_), Option.bind_some, Sum.elim_inl]
    · dsimp only
      rw [if_neg (by decide), awake_true, Option.bind_some]
      dsimp only
      rw [if_pos rfl]
      by_cases c : e = 0
      · rw [if_pos (beq_iff_eq.2 c)]
      · obtain ⟨h1, h2⟩ := hk.2 c
        subst h1 h2
        rw [if_neg (fun h => c (beq_iff_eq.1 h))]
        rfl
    · rcases hr with hr | hr | hr
      · omega
      · omega
      · rw [hr]
    · rcases hm with hm | hm | hm
      · omega
      · omega
      · rw [hm]
    · rcases hr with hr | hr | hr
      · omega
      · omega
      · rw [hr]
  · rcases hr with hr | hr | hr
    · omega
    · omega
    · rw [hr]
  · rcases hm with hm | hm | hm
    · omega
    · omega
    · rw [hm]
end Go.Ev.Inflate
