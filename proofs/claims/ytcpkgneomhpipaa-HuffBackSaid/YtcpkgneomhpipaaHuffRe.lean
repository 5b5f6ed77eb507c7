/- Part of a proof about the given program: HuffRe. -/
import Derived.Test.YtcpkgneomhpipaaHuffAll
import Derived.Test.YtcpkgneomhpipaaHuffRAll
namespace Go.Ev.Huff

/-! # Which sign a word is -/
theorem sgn_get (l : List Int) (n : Nat) : ∀ s0, s0 ≤ l.length → ∀ k, k < cnt (l.take s0) n → ∃ s, s < s0 ∧ (sgn l n s0).getD k 0 = (s : Int) ∧ l.getD s 0 = (n : Int) ∧ cnt (l.take s) n = k
  | 0, _, k, h => by simp [cnt] at h
  | s0 + 1, h0, k, h => by
    have hl := sgn_length l n s0 (by omega)
    rw [sgn_succ]
    by_cases c : k < cnt (l.take s0) n
    · obtain ⟨s, h1, h2, h3, h4⟩ := sgn_get l n s0 (by omega) k c
      refine ⟨s, by omega, ?_, h3, h4⟩
      rw [List.getD_eq_getElem?_getD, List.getElem?_append_left (by rw [hl]; exact c), ← List.getD_eq_getElem?_getD]
      exact h2
    · have hc : cnt (l.take (s0 + 1)) n = cnt (l.take s0) n + if l.getD s0 0 = (n : Int) then 1 else 0 := count_take_succ (by omega) _
      by_cases e : l.getD s0 0 = (n : Int)
      · rw [if_pos e] at hc
        refine ⟨s0, by omega, ?_, e, by omega⟩
        rw [if_pos e, List.getD_eq_getElem?_getD, List.getElem?_append_right (by rw [hl]; omega), hl, show k - cnt (l.take s0) n = 0 by omega]
        rfl
      · rw [if_neg e] at hc
        omega
theorem cnt_take_le (l : List Int) (n : Nat) {i j : Nat} (h : i ≤ j) : cnt (l.take i) n ≤ cnt (l.take j) n := by
  unfold cnt
  have e : l.take j = l.take i ++ (l.take j).drop i := by
    conv => lhs; rw [← List.take_append_drop i (l.take j), List.take_take, Nat.min_eq_left h]
  rw [e, List.count_append]
  omega
theorem cnt_take_lt {l : List Int} {n s j : Nat} (hs : s < l.length) (h : l.getD s 0 = (n : Int)) (hj : s < j) : cnt (l.take s) n < cnt (l.take j) n := by
  have hc : cnt (l.take (s + 1)) n = cnt (l.take s) n + if l.getD s 0 = (n : Int) then 1 else 0 := count_take_succ hs _
  rw [if_pos h] at hc
  have := cnt_take_le l n (i := s + 1) (j := j) (by omega)
  omega
theorem sgn_at {l : List Int} {n s : Nat} (hs : s < l.length) (h : l.getD s 0 = (n : Int)) : cnt (l.take s) n < cnt l n ∧ (sgn l n l.length).getD (cnt (l.take s) n) 0 = (s : Int) := by
  have h1 := cnt_take_lt hs h hs
  rw [List.take_length] at h1
  refine ⟨h1, ?_⟩
  obtain ⟨t, t1, t2, t3, t4⟩ := sgn_get l n l.length (Nat.le_refl _) (cnt (l.take s) n) (by rw [List.take_length]; exact h1)
  rw [t2]
  rcases Nat.lt_trichotomy s t with e | e | e
  · have := cnt_take_lt hs h e; omega
  · rw [e]
  · have := cnt_take_lt t1 t3 e; omega
/-- The sign of a word of so many bits. -/
def look (l : List Int) (n v : Nat) : Option Int := if base l n ≤ v ∧ v - base l n < cnt l n then some ((sgn l n l.length).getD (v - base l n) 0) else none
theorem code_of {l : List Int} {n s : Nat} (hn : 1 ≤ n) (h : l.getD s 0 = (n : Int)) : code l s = ((base l n + cnt (l.take s) n : Nat) : Int) := by
  unfold code
  rw [h, if_pos (by omega), Int.toNat_natCast]
theorem look_some {l : List Int} {n v : Nat} (hn : 1 ≤ n) {x : Int} (h : look l n v = some x) : ∃ s, s < l.length ∧ x = (s : Int) ∧ l.getD s 0 = (n : Int) ∧ code l s = (v : Int) := by
  unfold look at h
  by_cases c : base l n ≤ v ∧ v - base l n < cnt l n
  · rw [if_pos c] at h
    obtain ⟨s, h1, h2, h3, h4⟩ := sgn_get l n l.length (Nat.le_refl _) (v - base l n) (by rw [List.take_length]; exact c.2)
    refine ⟨s, h1, ?_, h3, ?_⟩
    · rw [← h2]; exact (Option.some.inj h).symm
    · rw [code_of hn h3, h4]; omega
  · rw [if_neg c] at h; cases h
theorem look_at {l : List Int} {n s : Nat} (hn : 1 ≤ n) (hs : s < l.length) (h : l.getD s 0 = (n : Int)) {v : Nat} (hv : code l s = (v : Int)) : look l n v = some (s : Int) := by
  obtain ⟨h1, h2⟩ := sgn_at hs h
  rw [code_of hn h] at hv
  unfold look
  rw [if_pos (by omega), show v - base l n = cnt (l.take s) n by omega, h2]
theorem sgs_prefix (l : List Int) (n : Nat) : ∀ d, ∃ t, sgs l (n + d) = sgs l n ++ t
  | 0 => ⟨[], by rw [List.append_nil]; rfl⟩
  | d + 1 => by
    obtain ⟨t, h⟩ := sgs_prefix l n d
    exact ⟨t ++ sgn l (n + d + 1) l.length, by rw [show n + (d + 1) = (n + d) + 1 from rfl, sgs, h, List.append_assoc]⟩
theorem sgs_get {l : List Int} {n : Nat} (hn : n + 1 ≤ 15) {k : Nat} (hk : k < cnt l (n + 1)) : (sgs l n).length + k < (sgs l 15).length ∧ (sgs l 15).getD ((sgs l n).length + k) 0 = (sgn l (n + 1) l.length).getD k 0 := by
  obtain ⟨t, h⟩ := sgs_prefix l (n + 1) (15 - (n + 1))
  rw [show n + 1 + (15 - (n + 1)) = 15 by omega] at h
  have hl : (sgn l (n + 1) l.length).length = cnt l (n + 1) := by rw [sgn_length l (n + 1) l.length (Nat.le_refl _), List.take_length]
  rw [h, sgs, List.length_append, List.length_append, hl]
  refine ⟨by omega, ?_⟩
  rw [List.getD_eq_getElem?_getD, List.append_assoc, List.getElem?_append_right (by omega), show (sgs l n).length + k - (sgs l n).length = k by omega, List.getElem?_append_left (by rw [hl]; exact hk), ← List.getD_eq_getElem?_getD]
theorem sgs_step (l : List Int) (n : Nat) : (sgs l (n + 1)).length = (sgs l n).length + cnt l (n + 1) := by
  rw [sgs, List.length_append, sgn_length l (n + 1) l.length (Nat.le_refl _), List.take_length]
theorem C_get (l : List Int) {n : Nat} (h1 : 1 ≤ n) (h2 : n ≤ 15) : (C l).getD n 0 = (cnt l n : Int) := by
  unfold C
  rw [tab_get (by omega), if_neg (by omega)]

/-! # A word is read -/
def readR (l b : List Int) : Nat → Nat → Nat → Nat → Option (Int × Int) × Nat
  | 0, _, p, _ => (none, p)
  | r + 1, n, p, v => if p + 1 ≤ 8 * b.length then (match look l n (2 * v + bitsAt b p 1) with | some s => (some (s, 0), p + 1) | none => readR l b r (n + 1) (p + 1) (2 * v + bitsAt b p 1)) else (some (0, 6), p)
theorem or_bit {v : Nat} (hv : v < 100000000) {x : Nat} (hx : x < 2) : IntKind.wrap .i64 (((BitVec.ofInt 64 (IntKind.wrap .i64 ((v : Int) * 2)) ||| BitVec.ofInt 64 (x : Int)).toNat : Nat) : Int) = ((2 * v + x : Nat) : Int) := by
  rw [wrap_i64 (n := (v : Int) * 2) (by omega), show (v : Int) * 2 = ((v * 2 ^ 1 : Nat) : Int) by omega, or64 (by omega) (by omega), Nat.or_comm, or_split v (by omega : x < 2 ^ 1), wrap_i64 (by omega)]
  omega
theorem b24_b_2_eqn (l : List Int) (v f at' : Int) {n : Nat} (h1 : 1 ≤ n) (h2 : n ≤ 15) (k : Int) (x7 x8 x9 : List Int) (b' : List Int) (a w m : Int) :
    b24_b_2 (v, f, at', (n : Int), k, C l, x7, x8, x9, b', a, w, m, ()) = some (.inl (v, f, at', (n : Int), k, decide (0 ≤ k ∧ k < (cnt l n : Int)), C l, x7, x8, x9, b', a, w, m, ())) := by
  unfold b24_b_2
  dsimp only
  by_cases c : 0 ≤ k
  · rw [if_pos (decide_eq_true c), if_pos (by omega), if_pos (by omega), if_pos rfl, Int.toNat_natCast, C_get l h1 h2]
    refine congrArg (fun q => some (Sum.inl (v, f, at', (n : Int), k, q, C l, x7, x8, x9, b', a, w, m, ()))) ?_
    rw [Bool.eq_iff_iff, decide_eq_true_eq, decide_eq_true_eq]
    exact ⟨fun h => ⟨c, h⟩, fun h => h.2⟩
  · rw [if_neg (fun h => c (of_decide_eq_true h)), if_pos rfl]
    refine congrArg (fun q => some (Sum.inl (v, f, at', (n : Int), k, q, C l, x7, x8, x9, b', a, w, m, ()))) ?_
    rw [decide_eq_false (fun h => c h.1)]
theorem l24_b_1_spec {l : List Int} (hl : l.length ≤ 320) {b : List Int} (hb : IsB b) (hbl : b.length ≤ 100000) (x7 x8 : List Int) : ∀ (r k n p v f : Nat), n + r = 15 → r < k → p ≤ 8 * b.length → v < 2 ^ n → 2 * f = base l (n + 1) →
    loopN g24_b_1 o24_b_1 b24_b_1 k ((v : Int), (f : Int), (((sgs l n).length : Nat) : Int), ((n + 1 : Nat) : Int), C l, x7, x8, sgs l 15, b, ((ra p : Nat) : Int), ((rw' b p : Nat) : Int), ((rm p : Nat) : Int), ()) =
      (match readR l b r (n + 1) p v with
      | (none, p') => some (.inl (C l, x7, x8, sgs l 15, b, ((ra p' : Nat) : Int), ((rw' b p' : Nat) : Int), ((rm p' : Nat) : Int), ()))
      | (some (s, e), p') => some (.inr (.inl (s, e, C l, x7, x8, sgs l 15, b, ((ra p' : Nat) : Int), ((rw' b p' : Nat) : Int), ((rm p' : Nat) : Int), ())))) := by
  intro r
  induction r with
  | zero =>
    intro k n p v f h1 h2 h3 h4 h5
    obtain ⟨k, rfl⟩ : ∃ j, k = j + 1 := ⟨k - 1, by omega⟩
    rw [loopN_succ]
    generalize loopN g24_b_1 o24_b_1 b24_b_1 k = L
    unfold b24_b_1
    dsimp only
    rw [if_neg (by rw [decide_eq_true_eq]; omega), if_pos rfl]
    rfl
  | succ r ih =>
    intro k n p v f h1 h2 h3 h4 h5
    obtain ⟨k, rfl⟩ : ∃ j, k = j + 1 := ⟨k - 1, by omega⟩
    have ih := ih k
    rw [loopN_succ]
    generalize hL : loopN g24_b_1 o24_b_1 b24_b_1 k = L at ih ⊢
    unfold b24_b_1 readR
    dsimp only
    have hp15 : (2 : Nat) ^ n ≤ 32768 := by
      have : (2 : Nat) ^ n ≤ 2 ^ 15 := Nat.pow_le_pow_right (by omega) (by omega)
      simpa using this
    have hbs := base_lim hl (n := n + 1) (by omega)
    have hcn := cnt_le l (n + 1)
    have hsl := sgs_length l n
    have hsl' : n * l.length ≤ 15 * 320 := Nat.mul_le_mul (by omega) hl
    rw [if_pos (by rw [decide_eq_true_eq]; omega)]
    by_cases c : p + 1 ≤ 8 * b.length
    · have hx := bitsAt_lt b p 1
      have hf := f34_eqn hb hbl (p := p) (n := 1) (by omega) c
      generalize bitsAt b p 1 = x at hx hf ⊢
      have hx' : x < 2 := hx
      have hf' : f34 (1, b, ((ra p : Nat) : Int), ((rw' b p : Nat) : Int), ((rm p : Nat) : Int), ()) = _ := hf
      rw [if_pos c, hf', Option.bind_some]
      dsimp only
      rw [if_neg (by decide), if_pos rfl, or_bit (by omega) hx']
      have w1 : IntKind.wrap .i64 ((f : Int) * 2) = ((base l (n + 1) : Nat) : Int) := by rw [wrap_i64 (by omega)]; omega
      rw [w1]
      have w2 : IntKind.wrap .i64 (((2 * v + x : Nat) : Int) - ((base l (n + 1) : Nat) : Int)) = ((2 * v + x : Nat) : Int) - ((base l (n + 1) : Nat) : Int) := wrap_i64 (by omega)
      rw [w2, b24_b_2_eqn l _ _ _ (by omega) (by omega), Option.bind_some, Sum.elim_inl]
      dsimp only
      by_cases c2 : base l (n + 1) ≤ 2 * v + x ∧ 2 * v + x - base l (n + 1) < cnt l (n + 1)
      · have hk : look l (n + 1) (2 * v + x) = some ((sgn l (n + 1) l.length).getD (2 * v + x - base l (n + 1)) 0) := by unfold look; rw [if_pos c2]
        obtain ⟨g1, g2⟩ := sgs_get (l := l) (n := n) (by omega) c2.2
        have w3 : IntKind.wrap .i64 ((((sgs l n).length : Nat) : Int) + (((2 * v + x : Nat) : Int) - ((base l (n + 1) : Nat) : Int))) = (((sgs l n).length + (2 * v + x - base l (n + 1)) : Nat) : Int) := by rw [wrap_i64 (by omega)]; omega
        rw [hk, if_pos (by rw [decide_eq_true_eq]; omega), w3, if_pos (by omega), if_pos (by omega), if_pos rfl, Int.toNat_natCast, Nat.zero_add, g2]
        rfl
      · have hk : look l (n + 1) (2 * v + x) = none := by unfold look; rw [if_neg c2]
        have w3 : IntKind.wrap .i64 (((base l (n + 1) : Nat) : Int) + (cnt l (n + 1) : Int)) = ((base l (n + 1) + cnt l (n + 1) : Nat) : Int) := by rw [wrap_i64 (by omega)]; omega
        have w4 : IntKind.wrap .i64 ((((sgs l n).length : Nat) : Int) + (cnt l (n + 1) : Int)) = (((sgs l (n + 1)).length : Nat) : Int) := by rw [sgs_step, wrap_i64 (by omega)]; omega
        rw [hk, if_neg (by rw [decide_eq_true_eq]; omega), if_pos (by omega), if_pos (by omega), if_pos (by omega), if_pos (by omega), if_pos rfl, Int.toNat_natCast, C_get l (by omega) (by omega), w3, w4, Option.bind_some, Sum.elim_inl, show IntKind.wrap .i64 (((n + 1 : Nat) : Int) + 1) = ((n + 1 + 1 : Nat) : Int) by rw [wrap_i64 (by omega)]; omega]
        exact ih (n + 1) (p + 1) (2 * v + x) (base l (n + 1) + cnt l (n + 1)) (by omega) (by omega) c (by rw [Nat.pow_succ]; omega) (base_step (by omega)).symm
    · have hf := f25_more (b := b) hbl (p := p) (n := 1) h3 (by omega) (by omega)
      have hf' : f34 (1, b, ((ra p : Nat) : Int), ((rw' b p : Nat) : Int), ((rm p : Nat) : Int), ()) = _ := hf
      rw [if_neg c, hf', Option.bind_some]
      dsimp only
      rw [if_pos (by decide), if_pos rfl]
      rfl
def readH (l b : List Int) (p : Nat) : Int × Int × Nat := match readR l b 15 1 p 0 with | (none, p') => (0, 4, p') | (some (s, e), p') => (s, e, p')
theorem f24_b_eqn {l : List Int} (hl : l.length ≤ 320) {b : List Int} (hb : IsB b) (hbl : b.length ≤ 100000) (x7 x8 : List Int) {p : Nat} (hp : p ≤ 8 * b.length) :
    f24_b (C l, x7, x8, sgs l 15, b, ((ra p : Nat) : Int), ((rw' b p : Nat) : Int), ((rm p : Nat) : Int), ()) = some ((readH l b p).1, (readH l b p).2.1, C l, x7, x8, sgs l 15, b, ((ra ((readH l b p).2.2) : Nat) : Int), ((rw' b ((readH l b p).2.2) : Nat) : Int), ((rm ((readH l b p).2.2) : Nat) : Int), ()) := by
  have h := l24_b_1_spec hl hb hbl x7 x8 15 18446744073709551616 0 p 0 0 rfl (by omega) hp (by decide) rfl
  have h' : loopN g24_b_1 o24_b_1 b24_b_1 18446744073709551616 (0, 0, 0, 1, C l, x7, x8, sgs l 15, b, ((ra p : Nat) : Int), ((rw' b p : Nat) : Int), ((rm p : Nat) : Int), ()) = _ := h
  unfold f24_b readH
  dsimp only
  rw [if_pos rfl, show l24_b_1 = loopN g24_b_1 o24_b_1 b24_b_1 18446744073709551616 from rfl, h']
  generalize readR l b 15 (0 + 1) p 0 = q
  obtain ⟨o, p'⟩ := q
  cases o with
  | none =>
    dsimp only
    rw [Option.bind_some, Sum.elim_inl, if_pos rfl]
  | some o =>
    obtain ⟨s, e⟩ := o
    dsimp only
    rw [Option.bind_some, Sum.elim_inr, Sum.elim_inl, if_pos rfl]
theorem readR_le (l b : List Int) : ∀ (r n p v : Nat), p ≤ 8 * b.length → p ≤ (readR l b r n p v).2 ∧ (readR l b r n p v).2 ≤ 8 * b.length
  | 0, n, p, v, h => ⟨Nat.le_refl _, h⟩
  | r + 1, n, p, v, h => by
    unfold readR
    by_cases c : p + 1 ≤ 8 * b.length
    · rw [if_pos c]
      cases look l n (2 * v + bitsAt b p 1) with
      | some s => exact ⟨Nat.le_succ _, c⟩
      | none =>
        have := readR_le l b r (n + 1) (p + 1) (2 * v + bitsAt b p 1) c
        exact ⟨by dsimp only; omega, this.2⟩
    · rw [if_neg c]
      exact ⟨Nat.le_refl _, h⟩
theorem readH_le (l b : List Int) {p : Nat} (h : p ≤ 8 * b.length) : p ≤ (readH l b p).2.2 ∧ (readH l b p).2.2 ≤ 8 * b.length := by
  have := readR_le l b 15 1 p 0 h
  unfold readH
  generalize readR l b 15 1 p 0 = q at this ⊢
  obtain ⟨o, p'⟩ := q
  cases o with
  | none => exact this
  | some o => exact this
/-- Where it isn't told that there are no more, there is one bit less. -/
theorem readH_lt (l b : List Int) (p : Nat) : (readH l b p).2.1 = 6 ∨ p < (readH l b p).2.2 := by
  unfold readH readR
  by_cases c : p + 1 ≤ 8 * b.length
  · rw [if_pos c]
    right
    cases look l 1 (2 * 0 + bitsAt b p 1) with
    | some s => exact Nat.lt_succ_self _
    | none =>
      have := readR_le l b 14 (1 + 1) (p + 1) (2 * 0 + bitsAt b p 1) c
      dsimp only
      generalize readR l b 14 (1 + 1) (p + 1) (2 * 0 + bitsAt b p 1) = q at this ⊢
      obtain ⟨o, p'⟩ := q
      cases o with
      | none => dsimp only at this ⊢; omega
      | some o => dsimp only at this ⊢; omega
  · rw [if_neg c]
    exact .inl rfl
end Go.Ev.Huff
