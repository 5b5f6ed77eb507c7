/- Part of a proof about the given program: BitsWrites. -/
import Derived.Test.YtehajkfdjefdeaaBitsRef
namespace Go.Ev.Bits

theorem nb_app_false (l : List Bool) : nb (l ++ [false]) = nb l := by rw [nb_append]; simp [nb]

/-- The reference fills up to a whole byte. -/
theorem l4_2_spec (xs : List OpT) (i w m : Int) (bs : List Int) : ∀ (k : Nat) (l : List Bool), (8 - l.length % 8) % 8 < k → l.length ≤ 10000 →
    ∃ l2 : List Bool, loopN g4_2 o4_2 b4_2 k (xs, i, w, m, bs, l, ()) = some (.inl (xs, i, w, m, bs, l2, ())) ∧ l2.length = (l.length + 7) / 8 * 8 ∧ nb l2 = nb l := by
  intro k
  induction k with
  | zero => intro l h; omega
  | succ k ih =>
    intro l h hl
    rw [loopN_succ]
    generalize hL : loopN g4_2 o4_2 b4_2 k = L at ih ⊢
    unfold b4_2
    simp only [if_true, List.drop_zero, List.take_length, one_of]
    rw [Int.tmod_eq_emod_of_nonneg (by omega)]
    by_cases h8 : l.length % 8 = 0
    · rw [if_neg (by simp; omega)]
      exact ⟨l, rfl, by omega, rfl⟩
    · rw [if_pos (by simp; omega), if_pos (by omega)]
      simp only [Option.bind_some, Sum.elim_inl]
      obtain ⟨l2, h1, h2, h3⟩ := ih (l ++ [false]) (by simp; omega) (by simp; omega)
      exact ⟨l2, h1, by rw [h2]; simp; omega, by rw [h3, nb_app_false]⟩

theorem and7 {m : Nat} (h : m < 8) : ((BitVec.toNat ((BitVec.ofInt 64 (IntKind.wrap IntKind.i64 (0 - (m : Int)))) &&& (BitVec.ofInt 64 7)) : Nat) : Int) = (((8 - m) % 8 : Nat) : Int) := by
  match m, h with
  | 0, _ => decide
  | 1, _ => decide
  | 2, _ => decide
  | 3, _ => decide
  | 4, _ => decide
  | 5, _ => decide
  | 6, _ => decide
  | 7, _ => decide

theorem f16_good {w m : Nat} {bs : List Int} (hm : m < 8) (hw : w < 2 ^ m) (hb : IsB bs) (hl : bs.length ≤ 90000) :
    ∃ (w' m' : Nat) (bs' : List Int), f16 ((w : Int), (m : Int), bs, ()) = some (0, (w' : Int), (m' : Int), bs', ()) ∧ m' < 8 ∧ w' < 2 ^ m' ∧ IsB bs' ∧ 8 * bs'.length + m' = (8 * bs.length + m + 7) / 8 * 8 ∧ V bs' w' = V bs w := by
  obtain ⟨w', m', bs', h1, h2, h3, h4, h5, h6⟩ := f10_good (v := 0) (n := (8 - m) % 8) (by omega) (Nat.two_pow_pos _) hm hw hb hl
  refine ⟨w', m', bs', ?_, h2, h3, h4, by omega, by rw [h6]; simp⟩
  unfold f16
  simp only [if_true]
  rw [and7 hm, wrap_i64 (by omega)]
  have h1' : f10 (0, (((8 - m) % 8 : Nat) : Int), (w : Int), (m : Int), bs, ()) = _ := h1
  rw [h1']
  rfl

/-- What the writer holds is what the reference's bits are. -/
def Same (w m : Nat) (bs : List Int) (l : List Bool) : Prop := m < 8 ∧ w < 2 ^ m ∧ IsB bs ∧ l.length = 8 * bs.length + m ∧ nb l = V bs w

theorem b4_4_spec (xs : List OpT) (i : Int) (c v n : Int) {w m : Nat} {bs : List Int} {l : List Bool} (h : Same w m bs l) (hl : l.length ≤ 5000) (hv : v ≤ 9223372036854775807) :
    ∃ (w' m' : Nat) (bs' : List Int) (l' : List Bool), b4_4 (xs, i, c == 0, (w : Int), (m : Int), bs, l, c, v, n, ()) = some (.inl (xs, i, (w' : Int), (m' : Int), bs', l', ())) ∧ Same w' m' bs' l' ∧ l'.length ≤ l.length + 24 := by
  obtain ⟨hm, hw, hb, hlen, hnb⟩ := h
  unfold b4_4
  simp only [if_true]
  by_cases hc : c = 0
  · rw [if_pos (by simp [hc])]
    by_cases hbad : n < 0 ∨ n > 24 ∨ v < 0
    · rw [f15_bad hbad, f10_bad hbad]
      exact ⟨w, m, bs, l, rfl, ⟨hm, hw, hb, hlen, hnb⟩, by omega⟩
    · obtain ⟨vn, rfl⟩ : ∃ vn : Nat, v = (vn : Int) := ⟨v.toNat, by omega⟩
      obtain ⟨nn, rfl⟩ : ∃ nn : Nat, n = (nn : Int) := ⟨n.toNat, by omega⟩
      rw [f15_run (by omega) (by omega) (by omega)]
      by_cases hlt : vn < 2 ^ nn
      · rw [if_pos hlt]
        obtain ⟨w', m', bs', h1, h2, h3, h4, h5, h6⟩ := f10_good (v := vn) (n := nn) (by omega) hlt hm hw hb (by omega)
        simp only [Option.bind_some]
        rw [h1]
        refine ⟨w', m', bs', l ++ bitsN vn nn, rfl, ⟨h2, h3, h4, by simp [bitsN_length]; omega, ?_⟩, by simp [bitsN_length]; omega⟩
        rw [nb_append, nb_bitsN, Nat.mod_eq_of_lt hlt, hnb, h6, hlen, Nat.mul_comm]
      · rw [if_neg hlt, f10_big (by omega) (by omega)]
        exact ⟨w, m, bs, l, rfl, ⟨hm, hw, hb, hlen, hnb⟩, by omega⟩
  · rw [if_neg (by simp [hc])]
    obtain ⟨w', m', bs', h1, h2, h3, h4, h5, h6⟩ := f16_good hm hw hb (by omega)
    rw [h1]
    simp only [Option.bind_some]
    rw [if_neg (by simp)]
    obtain ⟨l2, g1, g2, g3⟩ := l4_2_spec xs i (w' : Int) (m' : Int) bs' 18446744073709551616 l (by omega) (by omega)
    rw [show l4_2 = loopN g4_2 o4_2 b4_2 18446744073709551616 from rfl, g1]
    exact ⟨w', m', bs', l2, rfl, ⟨h2, h3, h4, by omega, by rw [g3, hnb, h6]⟩, by omega⟩

theorem l4_3_spec (xs : List OpT) (i w m : Int) (bs : List Int) (l : List Bool) : ∀ (k j : Nat) (b : List Int), j ≤ b.length → b.length < j + k → b.length ≤ 1000000 →
    ∃ (j' : Int) (b' : List Int), loopN g4_3 o4_3 b4_3 k (xs, i, (j : Int), w, m, bs, l, b, ()) = some (.inl (xs, i, j', w, m, bs, l, b', ())) := by
  intro k
  induction k with
  | zero => intro j b h1 h2; omega
  | succ k ih =>
    intro j b h1 h2 h3
    rw [loopN_succ]
    generalize hL : loopN g4_3 o4_3 b4_3 k = L at ih ⊢
    unfold b4_3
    simp only [if_true, List.length_set]
    rcases Nat.lt_or_ge j b.length with h | h
    · rw [if_pos (by simpa using h), if_pos (by omega), if_pos (by omega), wrap_i64 (by omega)]
      simp only [Option.bind_some, Sum.elim_inl]
      exact ih (j + 1) _ (by simp; omega) (by simp; omega) (by simpa using h3)
    · rw [if_neg (by simpa using h)]
      exact ⟨_, _, rfl⟩

theorem outB_ref {w m : Nat} {bs : List Int} {l : List Bool} (h : Same w m bs l) {B : List Int} (hB : IsB B) (hl : B.length = (l.length + 7) / 8) (hv : valB B = nb l) : outB w m bs = B := by
  obtain ⟨hm, hw, hb, hlen, hnb⟩ := h
  obtain ⟨h1, h2, h3⟩ := outB_spec hm hw hb
  exact valB_inj h1 hB (by rw [h3, hl, hlen]) (by rw [h2, hv, hnb])

theorem b4_5_spec (xs : List OpT) (i : Int) {w m : Nat} {bs : List Int} {l : List Bool} (h : Same w m bs l) (hl : l.length ≤ 5000) :
    b4_5 (xs, i, (w : Int), (m : Int), bs, l, ()) = some (.inl (xs, i, (w : Int), (m : Int), bs, l, ())) := by
  have hbl : bs.length ≤ 5000 := by have := h.2.2.2.1; omega
  unfold b4_5
  simp only [if_true, List.drop_zero, List.take_length]
  rw [f11_eqn (by omega)]
  obtain ⟨B, h1, h2, h3, h4⟩ := f17_spec l (by omega)
  simp only [Option.bind_some]
  rw [h1, outB_ref h h2 h3 h4]
  simp only [Option.bind_some, beq_self_eq_true, Bool.not_true]
  rw [if_neg (by simp)]
  obtain ⟨j', b', g⟩ := l4_3_spec xs i (w : Int) (m : Int) bs l 18446744073709551616 0 B (by omega) (by omega) (by omega)
  have g' : loopN g4_3 o4_3 b4_3 18446744073709551616 (xs, i, 0, (w : Int), (m : Int), bs, l, B, ()) = _ := g
  rw [show l4_3 = loopN g4_3 o4_3 b4_3 18446744073709551616 from rfl, g']
  rfl

theorem l4_1_spec (xs : List OpT) (hx : xs.length ≤ 100) (hv : ∀ e ∈ xs, e.2.1 ≤ 9223372036854775807) : ∀ (k j : Nat) (w m : Nat) (bs : List Int) (l : List Bool), j ≤ xs.length → xs.length < j + k → Same w m bs l → l.length ≤ 24 * j →
    ∃ y, loopN g4_1 o4_1 b4_1 k (xs, (j : Int), (w : Int), (m : Int), bs, l, ()) = some (.inl y) := by
  intro k
  induction k with
  | zero => intro j w m bs l h1 h2; omega
  | succ k ih =>
    intro j w m bs l h1 h2 hs hl
    rw [loopN_succ]
    generalize hL : loopN g4_1 o4_1 b4_1 k = L at ih ⊢
    unfold b4_1
    simp only [if_true, Int.toNat_natCast]
    rcases Nat.lt_or_ge j xs.length with h | h
    · rw [if_pos (by simpa using h), if_pos (by omega), if_pos (by omega)]
      have hmem : xs.getD j (0, 0, 0) ∈ xs := by
        rw [List.getD_eq_getElem?_getD, List.getElem?_eq_getElem h]; exact List.getElem_mem _
      generalize he : xs.getD j (0, 0, 0) = e at hmem
      obtain ⟨c, v, n⟩ := e
      obtain ⟨w', m', bs', l', g1, g2, g3⟩ := b4_4_spec xs (j : Int) c v n hs (by omega) (hv _ hmem)
      simp only []
      rw [g1]
      simp only [Option.bind_some, Sum.elim_inl]
      rw [b4_5_spec xs (j : Int) g2 (by omega)]
      simp only [Option.bind_some, Sum.elim_inl]
      rw [wrap_i64 (by omega)]
      exact ih (j + 1) w' m' bs' l' (by omega) (by omega) g2 (by omega)
    · rw [if_neg (by simpa using h)]
      exact ⟨_, rfl⟩

theorem bitsWrites_pure (xs : List OpT) (h : Wf (.slice (.pair (.int .i64) (.pair (.int .i64) (.int .i64)))) xs) : f4 (xs, ()) = some (true, ()) := by
  unfold f4
  simp only []
  by_cases h1 : 100 < xs.length
  · rw [if_pos (by simp; omega)]
  · rw [if_neg (by simp; omega), show f8 () = some (0, 0, [], ()) from rfl]
    simp only [Option.bind_some, if_true]
    obtain ⟨y, hy⟩ := l4_1_spec xs (by omega) (fun e he => by
      have := (h.2 e he).2.1.2
      rw [show IntKind.i64.max = 9223372036854775807 by decide] at this
      exact this) 18446744073709551616 0 0 0 [] [] (by omega) (by omega) ⟨by omega, by simp, (fun x hx => by cases hx), rfl, by simp [V, valB, nb]⟩ (by simp)
    have hy' : loopN g4_1 o4_1 b4_1 18446744073709551616 (xs, 0, 0, 0, [], [], ()) = some (.inl y) := hy
    rw [show l4_1 = loopN g4_1 o4_1 b4_1 18446744073709551616 from rfl, hy']
    simp only [Option.bind_some, Sum.elim_inl]
    rw [awake_true]
    rfl
end Go.Ev.Bits
