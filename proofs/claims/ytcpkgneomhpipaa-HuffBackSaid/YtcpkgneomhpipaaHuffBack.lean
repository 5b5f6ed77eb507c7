/- Part of a proof about the given program: HuffBack. -/
import Derived.Test.YtcpkgneomhpipaaHuffK
namespace Go.Ev.Huff

/-! # The statement: no word is another one's beginning -/
theorem l7_7_spec (x1 x2 x3 : List Int) (x4 : Int) {k n : Nat} (hk : k < x1.length) (hn : x1.getD k 0 = (n : Int)) (hn15 : n ≤ 15) (x8 x9 x10 : List Int) (x11 x12 : Int) (x13 x14 : List Int) : ∀ (f j c : Nat), n < j + f → j ≤ n → c < 1000000000 →
    loopN g7_7 o7_7 b7_7 f (x1, x2, x3, x4, (k : Int), (c : Int), (j : Int), x8, x9, x10, x11, x12, x13, x14, ()) = some (.inl (x1, x2, x3, x4, (k : Int), ((c / 2 ^ (n - j) : Nat) : Int), x8, x9, x10, x11, x12, x13, x14, ())) := by
  intro f
  induction f with
  | zero => intro j c h1 h2; omega
  | succ f ih =>
    intro j c h1 h2 h3
    rw [loopN_succ]
    generalize hLL : loopN g7_7 o7_7 b7_7 f = LL at ih ⊢
    unfold b7_7
    dsimp only
    rw [Int.toNat_natCast, hn, if_pos (by omega), if_pos (by omega)]
    rcases Nat.lt_or_ge j n with h | h
    · rw [if_pos (by rw [decide_eq_true_eq]; omega), if_pos rfl, if_pos rfl, tdiv2 (by omega), Option.bind_some, Sum.elim_inl, show IntKind.wrap .i64 ((j : Int) + 1) = ((j + 1 : Nat) : Int) by rw [wrap_i64 (by omega)]; omega, ih (j + 1) (c / 2) (by omega) (by omega) (by omega), Nat.div_div_eq_div_mul, ← Nat.pow_succ', show (n - (j + 1)).succ = n - j by omega]
    · rw [if_neg (by rw [decide_eq_true_eq]; omega), if_pos rfl, if_pos rfl, show n - j = 0 by omega, Nat.pow_zero, Nat.div_one]
      rfl
/-- A word isn't the beginning of another sign's word. -/
theorem apart {l : List Int} {i k a c : Nat} (hi : i < l.length) (hk : k < l.length) (hik : i ≠ k) (ha : l.getD i 0 = (a : Int)) (hc : l.getD k 0 = (c : Int)) (h1 : 1 ≤ a) (hac : a ≤ c) : (code l k).toNat / 2 ^ (c - a) ≠ (code l i).toNat := by
  have e1 := code_nat h1 ha
  have e2 := code_nat (by omega) hc
  have n1 := cnt_in hi ha
  rcases Nat.lt_or_ge a c with h | h
  · have hf := base_far l h1 (c - a - 1)
    rw [show c - a - 1 + 1 = c - a by omega, show a + (c - a) = c by omega] at hf
    have h2 : base l a + cnt l a ≤ (code l k).toNat / 2 ^ (c - a) := by
      rw [Nat.le_div_iff_mul_le (Nat.two_pow_pos _), Nat.mul_comm, e2]
      omega
    omega
  · have e : c = a := by omega
    subst e
    rw [Nat.sub_self, Nat.pow_zero, Nat.div_one]
    intro h3
    rcases Nat.lt_or_ge i k with h4 | h4
    · have := cnt_take_lt hi ha h4; omega
    · have := cnt_take_lt (j := i) hk hc (by omega); omega
theorem l7_6_spec {l : List Int} (he : err l = 0) (x2 : List Int) {i : Nat} (hi : i < l.length) (x6 x7 x8 : List Int) (x9 x10 : Int) (x11 x12 : List Int) : ∀ (f k : Nat), l.length < k + f → k ≤ l.length →
    loopN g7_6 o7_6 b7_6 f (l, x2, codes l, (i : Int), (k : Int), x6, x7, x8, x9, x10, x11, x12, ()) = some (.inl (l, x2, codes l, (i : Int), x6, x7, x8, x9, x10, x11, x12, ())) := by
  obtain ⟨hl, hk, _⟩ := err_ok he
  intro f
  induction f with
  | zero => intro k h1 h2; omega
  | succ f ih =>
    intro k h1 h2
    rw [loopN_succ]
    generalize hLL : loopN g7_6 o7_6 b7_6 f = LL at ih ⊢
    unfold b7_6
    dsimp only
    have hcl : (codes l).length = l.length := tab_length ..
    rcases Nat.lt_or_ge k l.length with h | h
    · have hI := ih (k + 1) (by omega) (by omega)
      have w1 : IntKind.wrap .i64 ((k : Int) + 1) = ((k + 1 : Nat) : Int) := by rw [wrap_i64 (by omega)]; omega
      rw [if_pos (by rw [decide_eq_true_eq]; omega), Int.toNat_natCast, Int.toNat_natCast, w1]
      by_cases c0 : i = k
      · rw [if_pos (by rw [beq_iff_eq]; omega), if_pos rfl, if_pos rfl, Option.bind_some, Sum.elim_inl]
        exact hI
      · rw [if_neg (by rw [beq_iff_eq]; omega), if_pos (by omega), if_pos (by omega)]
        have hgi := hk.get i
        have hgk := hk.get k
        have hcg : (codes l).getD k 0 = code l k := tab_get h _
        have hcgi : (codes l).getD i 0 = code l i := tab_get hi _
        have hck := code_lim hl hk k
        have hci := code_lim hl hk i
        generalize ha : l.getD i 0 = x at hgi ⊢
        generalize hc : l.getD k 0 = y at hgk ⊢
        obtain ⟨a, rfl⟩ : ∃ n : Nat, x = (n : Int) := ⟨x.toNat, by omega⟩
        obtain ⟨c, rfl⟩ : ∃ n : Nat, y = (n : Int) := ⟨y.toNat, by omega⟩
        by_cases c1 : a < 1
        · rw [if_pos (decide_eq_true (show (a : Int) < 1 by omega)), if_pos rfl, if_pos rfl, Option.bind_some, Sum.elim_inl]
          exact hI
        · rw [if_neg (show ¬ (decide ((a : Int) < 1) = true) by rw [decide_eq_true_eq]; omega), if_pos (by omega), if_pos (by omega), if_pos (by omega), if_pos (by omega)]
          by_cases c2 : a > c
          · rw [if_pos (decide_eq_true (show (a : Int) > (c : Int) by omega)), if_pos rfl, if_pos rfl, Option.bind_some, Sum.elim_inl]
            exact hI
          · rw [if_neg (show ¬ (decide ((a : Int) > (c : Int)) = true) by rw [decide_eq_true_eq]; omega), if_pos (by omega), if_pos (by omega), if_neg (show ¬ (decide ((c : Int) > 15) = true) by rw [decide_eq_true_eq]; omega), if_pos (by omega), if_pos (by omega), if_pos (by omega), if_pos (by omega), if_pos rfl, if_pos rfl, hcg]
            have w2 : code l k = (((code l k).toNat : Nat) : Int) := by omega
            have hr := l7_7_spec l x2 (codes l) (i : Int) h hc (by omega) x6 x7 x8 x9 x10 x11 x12 18446744073709551616 a (code l k).toNat (by omega) (by omega) (by omega)
            rw [← w2] at hr
            rw [show l7_7 = loopN g7_7 o7_7 b7_7 18446744073709551616 from rfl, hr, Option.bind_some, Sum.elim_inl]
            dsimp only
            rw [if_pos (by omega), if_pos (by omega), Int.toNat_natCast, hcgi, if_neg, if_pos rfl, if_pos rfl, Option.bind_some, Sum.elim_inl, w1]
            · exact hI
            · have hap := apart hi h c0 ha hc (by omega) (by omega)
              intro e
              have e' := eq_of_beq e
              exact hap (by
                have e2 : ((((code l k).toNat / 2 ^ (c - a) : Nat) : Int)) = code l i := e'
                omega)
    · rw [if_neg (by rw [decide_eq_true_eq]; omega), if_pos rfl, if_pos rfl]
      rfl
theorem l7_3_spec {l : List Int} (he : err l = 0) (x2 : List Int) (x5 x6 x7 : List Int) (x8 x9 : Int) (x10 x11 : List Int) : ∀ (f i : Nat), l.length < i + f → i ≤ l.length →
    loopN g7_3 o7_3 b7_3 f (l, x2, codes l, (i : Int), x5, x6, x7, x8, x9, x10, x11, ()) = some (.inl (x2, x5, x6, x7, x8, x9, x10, x11, ())) := by
  obtain ⟨hl, hk, _⟩ := err_ok he
  intro f
  induction f with
  | zero => intro i h1 h2; omega
  | succ f ih =>
    intro i h1 h2
    rw [loopN_succ]
    generalize hLL : loopN g7_3 o7_3 b7_3 f = LL at ih ⊢
    unfold b7_3
    dsimp only
    rcases Nat.lt_or_ge i l.length with h | h
    · have hr := l7_6_spec he x2 h x5 x6 x7 x8 x9 x10 x11 18446744073709551616 0 (by omega) (by omega)
      have hr' : loopN g7_6 o7_6 b7_6 18446744073709551616 (l, x2, codes l, (i : Int), 0, x5, x6, x7, x8, x9, x10, x11, ()) = _ := hr
      rw [if_pos (by rw [decide_eq_true_eq]; omega), if_pos rfl, if_pos rfl, show l7_6 = loopN g7_6 o7_6 b7_6 18446744073709551616 from rfl, hr', Option.bind_some, Sum.elim_inl]
      dsimp only
      rw [if_pos rfl, if_pos rfl, Option.bind_some, Sum.elim_inl, show IntKind.wrap .i64 ((i : Int) + 1) = ((i + 1 : Nat) : Int) by rw [wrap_i64 (by omega)]; omega]
      exact ih (i + 1) (by omega) (by omega)
    · rw [if_neg (by rw [decide_eq_true_eq]; omega), if_pos rfl, if_pos rfl]
      rfl

/-! # What is put is read -/
def has (l : List Int) (s : Int) : Bool := !(word l s).isEmpty
theorem word_none {l : List Int} {s : Int} (h : has l s = false) : word l s = [] := by
  unfold has at h
  cases hw : word l s with
  | nil => rfl
  | cons x t => rw [hw] at h; cases h
theorem word_some {l : List Int} {s : Int} (h : has l s = true) : word l s ≠ [] := by
  intro e
  unfold has at h
  rw [e] at h
  cases h
theorem wordsOf_filter (l : List Int) : ∀ signs : List Int, wordsOf l (signs.filter (has l)) = wordsOf l signs
  | [] => rfl
  | s :: signs => by
    have ih := wordsOf_filter l signs
    unfold wordsOf at ih ⊢
    cases h : has l s with
    | true => rw [List.filter_cons_of_pos h, List.flatMap_cons, List.flatMap_cons, ih]
    | false => rw [List.filter_cons_of_neg (by rw [h]; decide), List.flatMap_cons, word_none h, List.nil_append, ih]
theorem l7_4_spec {l : List Int} (he : err l = 0) {signs : List Int} (hs : signs.length ≤ 60) : ∀ (k i w m : Nat) (bs : List Int) (all : List Bool) (ins : List Int), signs.length < i + k → i ≤ signs.length → Wr all w m bs → all.length ≤ 15 * i → ins.length ≤ i →
    ∃ (w' m' : Nat) (bs' : List Int), loopN g7_4 o7_4 b7_4 k (signs, (i : Int), C l, l, codes l, (w : Int), (m : Int), ins, sgs l 15, bs, ()) = some (.inl (C l, l, codes l, (w' : Int), (m' : Int), ins ++ (signs.drop i).filter (has l), sgs l 15, bs', ())) ∧ Wr (all ++ wordsOf l (signs.drop i)) w' m' bs' := by
  obtain ⟨hl, hk, _⟩ := err_ok he
  intro k
  induction k with
  | zero => intro i w m bs all ins h1 h2; omega
  | succ k ih =>
    intro i w m bs all ins h1 h2 h3 h4 h5
    rw [loopN_succ]
    generalize hLL : loopN g7_4 o7_4 b7_4 k = LL at ih ⊢
    unfold b7_4
    dsimp only
    rcases Nat.lt_or_ge i signs.length with h | h
    · rw [drop_getD 0 h, if_pos (by rw [decide_eq_true_eq]; omega), if_pos (by omega), if_pos (by omega), Int.toNat_natCast]
      generalize signs.getD i 0 = s
      obtain ⟨e, w', m', bs', p1, p2, p3⟩ := f19_eqn hl hk s (C l) (sgs l 15) (by omega) h3
      have hwl := word_length_le hk s
      have e2 : wordsOf l (s :: signs.drop (i + 1)) = word l s ++ wordsOf l (signs.drop (i + 1)) := rfl
      have w1 : IntKind.wrap .i64 ((i : Int) + 1) = ((i + 1 : Nat) : Int) := by rw [wrap_i64 (by omega)]; omega
      rw [if_pos rfl, if_pos rfl, p1, Option.bind_some]
      dsimp only
      rw [e2, w1]
      rcases p3 with ⟨p3, rfl⟩ | ⟨p3, rfl⟩
      · have hh : has l s = false := by unfold has; rw [p3]; rfl
        rw [if_neg (by decide), if_pos rfl, if_pos rfl, if_pos rfl, Option.bind_some, Sum.elim_inl, List.filter_cons_of_neg (by rw [hh]; decide), ← List.append_assoc]
        exact ih (i + 1) w' m' bs' _ ins (by omega) (by omega) p2 (by rw [List.length_append]; omega) (by omega)
      · have hh : has l s = true := by
          unfold has
          cases hw : word l s with
          | nil => exact absurd hw p3
          | cons x t => rfl
        rw [if_pos (by rfl), if_pos (by omega), if_pos (by omega), show List.take 1 (List.drop 0 (List.set (List.replicate 1 (0 : Int)) 0 s)) = [s] from rfl, List.drop_zero, List.take_length, if_pos (by rw [List.length_singleton]; omega), if_pos rfl, if_pos rfl, if_pos rfl, Option.bind_some, Sum.elim_inl, List.filter_cons_of_pos hh, ← List.append_assoc]
        have hI := ih (i + 1) w' m' bs' (all ++ word l s) (ins ++ [s]) (by omega) (by omega) p2 (by rw [List.length_append]; omega) (by rw [List.length_append, List.length_singleton]; omega)
        rw [List.append_assoc ins] at hI
        exact hI
    · rw [List.drop_of_length_le h, if_neg (by rw [decide_eq_true_eq]; omega), if_pos rfl, if_pos rfl, if_pos rfl]
      have e2 : wordsOf l [] = [] := rfl
      rw [e2, List.append_nil, List.filter_nil, List.append_nil]
      exact ⟨w, m, bs, rfl, h3⟩
theorem has_in {l : List Int} (hk : Ok l) {s : Int} (h : has l s = true) : ∃ t : Nat, s = (t : Int) ∧ t < l.length ∧ 0 < l.getD t 0 := by
  have hne := word_some h
  unfold word at hne
  by_cases c : 0 ≤ s ∧ s < ((l.length : Nat) : Int)
  · refine ⟨s.toNat, by omega, by omega, ?_⟩
    have h0 := hk.get s.toNat
    rcases Int.lt_or_le 0 (l.getD s.toNat 0) with hp | hp
    · exact hp
    · have hz : l.getD s.toNat 0 = 0 := Int.le_antisymm hp h0.1
      rw [if_pos c, hz] at hne
      exact absurd rfl hne
  · rw [if_neg c] at hne
    exact absurd rfl hne
theorem wordsOf_take_succ (l ins : List Int) {i : Nat} (h : i < ins.length) : wordsOf l (ins.take (i + 1)) = wordsOf l (ins.take i) ++ word l (ins.getD i 0) := by
  unfold wordsOf
  rw [List.take_add_one, List.getElem?_eq_getElem h, List.flatMap_append, List.getD_eq_getElem?_getD, List.getElem?_eq_getElem h]
  simp
theorem l7_5_spec {l : List Int} (he : err l = 0) {ins : List Int} (hs : ins.length ≤ 60) (hin : ∀ s ∈ ins, has l s = true) {b : List Int} (hb : IsB b) (hbl : b.length ≤ 2000) (hv : valB b = nb (wordsOf l ins)) (hlen : (wordsOf l ins).length ≤ 8 * b.length) : ∀ (k i : Nat), ins.length < i + k → i ≤ ins.length →
    loopN g7_5 o7_5 b7_5 k ((i : Int), C l, l, codes l, ins, b, ((ra ((wordsOf l (ins.take i)).length) : Nat) : Int), ((rw' b ((wordsOf l (ins.take i)).length) : Nat) : Int), ((rm ((wordsOf l (ins.take i)).length) : Nat) : Int), sgs l 15, ()) = some (.inl (b, ((ra ((wordsOf l ins).length) : Nat) : Int), ((rw' b ((wordsOf l ins).length) : Nat) : Int), ((rm ((wordsOf l ins).length) : Nat) : Int), ())) := by
  obtain ⟨hl, hk, _⟩ := err_ok he
  have hpart : ∀ i, wordsOf l ins = wordsOf l (ins.take i) ++ wordsOf l (ins.drop i) := fun i => by
    unfold wordsOf
    rw [← List.flatMap_append, List.take_append_drop]
  intro k
  induction k with
  | zero => intro i h1 h2; omega
  | succ k ih =>
    intro i h1 h2
    rw [loopN_succ]
    generalize hLL : loopN g7_5 o7_5 b7_5 k = LL at ih ⊢
    unfold b7_5
    dsimp only
    rcases Nat.lt_or_ge i ins.length with h | h
    · have hm : ins.getD i 0 ∈ ins := by
        rw [List.getD_eq_getElem?_getD, List.getElem?_eq_getElem h]
        exact List.getElem_mem _
      obtain ⟨t, ht, t1, t2⟩ := has_in hk (hin _ hm)
      have hts := wordsOf_take_succ l ins h
      have hp1 := hpart (i + 1)
      rw [hts, ht] at hp1
      have hple : (wordsOf l (ins.take i) ++ word l (t : Int)).length ≤ 8 * b.length := by
        have := congrArg List.length hp1
        rw [List.length_append] at this
        omega
      have hrd := readH_word he t1 t2 (b := b) (pre := wordsOf l (ins.take i)) (post := wordsOf l (ins.drop (i + 1))) (by rw [hv, ← List.append_assoc, ← hp1]) hple
      have hpl : (wordsOf l (ins.take i)).length ≤ 8 * b.length := by rw [List.length_append] at hple; omega
      rw [if_pos (by rw [decide_eq_true_eq]; omega), if_pos rfl, f24_b_eqn hl hb (by omega) l (codes l) hpl, hrd, Option.bind_some]
      dsimp only
      rw [if_neg (by decide), if_pos (by omega), if_pos (by omega), Int.toNat_natCast, Nat.zero_add, ht, if_neg (by rw [bne_self_eq_false]; decide), if_pos rfl, if_pos rfl, Option.bind_some, Sum.elim_inl, show IntKind.wrap .i64 ((i : Int) + 1) = ((i + 1 : Nat) : Int) by rw [wrap_i64 (by omega)]; omega]
      have hI := ih (i + 1) (by omega) (by omega)
      rw [hts, ht] at hI
      exact hI
    · rw [List.take_of_length_le h, if_neg (by rw [decide_eq_true_eq]; omega)]
      rfl
theorem huffBack_pure (l signs : List Int) : f7 (l, signs, ()) = some (true, ()) := by
  unfold f7
  dsimp only
  by_cases c1 : 60 < l.length
  · rw [if_pos (by rw [decide_eq_true_eq]; omega)]
  · rw [if_neg (by rw [decide_eq_true_eq]; omega)]
    by_cases c2 : 60 < signs.length
    · rw [if_pos (by rw [decide_eq_true_eq]; omega)]
    · rw [if_neg (by rw [decide_eq_true_eq]; omega)]
      unfold b7_1 f17
      dsimp only
      rw [f11_eqn]
      by_cases c : errM l = 0
      · have he := err_of c
        obtain ⟨hl, hk, _⟩ := err_ok he
        have h73 := l7_3_spec he signs (C l) l (codes l) 0 0 (sgs l 15) [] 18446744073709551616 0 (by omega) (by omega)
        have h73' : loopN g7_3 o7_3 b7_3 18446744073709551616 (l, signs, codes l, 0, C l, l, codes l, 0, 0, sgs l 15, [], ()) = _ := h73
        obtain ⟨w, m, bs, q1, q2⟩ := l7_4_spec he (signs := signs) (by omega) 18446744073709551616 0 0 0 [] [] [] (by omega) (by omega) Wr.nil (by decide) (by decide)
        rw [List.drop_zero, List.nil_append] at q1 q2
        have q1' : loopN g7_4 o7_4 b7_4 18446744073709551616 (signs, 0, C l, l, codes l, 0, 0, [], sgs l 15, [], ()) = _ := q1
        have hwl := wordsOf_le hk signs
        obtain ⟨B, b1, b2, b3, b4⟩ := q2.bytes (by omega)
        have hfl : (signs.filter (has l)).length ≤ signs.length := List.length_filter_le _ _
        have hwf := wordsOf_filter l signs
        have h75 := l7_5_spec he (ins := signs.filter (has l)) (by omega) (fun s hs => (List.mem_filter.1 hs).2) b2 (by omega) (by rw [b4, hwf]) (by rw [hwf]; omega) 18446744073709551616 0 (by omega) (by omega)
        rw [hwf] at h75
        rw [if_pos c, Option.bind_some, Sum.elim_inr]
        dsimp only
        rw [if_pos rfl, Option.bind_some, Sum.elim_inr, Sum.elim_inl, f9_eqn, if_pos he, he, Option.bind_some, Option.bind_some]
        dsimp only
        have hcl : (codes l).length = l.length := tab_length ..
        rw [if_neg (show ¬ (((0 : Int) != 0) = true) by decide), if_neg (show ¬ (((0 : Int) != 0) = true) by decide), hcl, if_neg (by rw [bne_self_eq_false]; decide), if_pos rfl, if_pos rfl, List.drop_zero, ← hcl, List.take_length, show l7_3 = loopN g7_3 o7_3 b7_3 18446744073709551616 from rfl, h73', Option.bind_some, Sum.elim_inl]
        dsimp only
        rw [if_pos rfl, if_pos rfl, show l7_4 = loopN g7_4 o7_4 b7_4 18446744073709551616 from rfl, q1', Option.bind_some, Sum.elim_inl]
        dsimp only
        rw [if_pos rfl, b1, Option.bind_some]
        dsimp only
        rw [List.drop_zero, List.take_length, f22_pos (by omega), Option.bind_some]
        dsimp only
        have h75' : ∀ b, b = B → loopN g7_5 o7_5 b7_5 18446744073709551616 (0, C l, l, codes l, signs.filter (has l), b, ((ra 0 : Nat) : Int), ((rw' b 0 : Nat) : Int), ((rm 0 : Nat) : Int), sgs l 15, ()) = some (.inl (b, ((ra ((wordsOf l signs).length) : Nat) : Int), ((rw' b ((wordsOf l signs).length) : Nat) : Int), ((rm ((wordsOf l signs).length) : Nat) : Int), ())) := fun b e => by rw [e]; exact h75
        rw [if_pos rfl, if_pos rfl, show l7_5 = loopN g7_5 o7_5 b7_5 18446744073709551616 from rfl, h75' B rfl, Option.bind_some, Sum.elim_inl, awake_true, Option.bind_some]
        dsimp only
        rw [if_pos rfl, f25_left (by omega) (by omega), Option.bind_some]
        dsimp only
        rw [decide_eq_true (by omega)]
      · rw [if_neg c, Option.bind_some, Sum.elim_inl, Option.bind_some, Sum.elim_inl, f9_eqn, Option.bind_some, Option.bind_some]
        dsimp only
        have hb : b7_2 (errM l, 0, 0, [], ()) = some (.inl (true, ())) := by
          unfold b7_2
          rw [awake_true, Option.bind_some, if_pos rfl]
          dsimp only
          rw [show (errM l != 0) = true by rw [bne_iff_ne]; exact c]
        rw [if_pos (by rw [bne_iff_ne]; exact c), if_pos rfl, hb]
        rfl
end Go.Ev.Huff
