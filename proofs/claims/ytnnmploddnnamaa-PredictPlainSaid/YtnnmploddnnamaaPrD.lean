/- Part of a proof about the given program: PrD. -/
import Derived.Test.YtnnmploddnnamaaPrC
namespace Go.Ev.Pre
set_option maxRecDepth 100000

/-! ## The loops over the rows -/
def tagOf (fr : Nat) (c : List Int) : Int := if fr = 1 then c.getD 0 0 else 1
def rowOf (fr s : Nat) (ab c : List Int) : List Int := uGo s (tagOf fr c) ab [] (c.drop fr)
theorem uL_cons {fr s : Nat} {ab c : List Int} {cs : List (List Int)} : uL fr s ab (c :: cs) = if fr = 1 ∧ 4 < c.getD 0 0 then none else (uL fr s (rowOf fr s ab c) cs).map (rowOf fr s ab c ++ ·) := rfl

theorem b8_2_eqn {e n : Int} {fr s : Nat} {res out ab part : List Int} (hn : 0 ≤ n ∧ n ≤ 1099511627776) (hf : fr ≤ 1) (hp : IsB part) (ha : IsB ab) (hs : 1 ≤ s) (hs2 : s ≤ 1000) (hl : part.length ≤ 1099511627776) (ho : out.length ≤ 1099511627776) (hfl : fr ≤ part.length) :
    b8_2 ((e, n, (fr : Int), (s : Int), res, out, ab, ()), part) = if fr = 1 ∧ 4 < part.getD 0 0 then some (.inr (.inl (4, [], ()))) else some (.inl (e, n, (fr : Int), (s : Int), res, out ++ rowOf fr s ab part, rowOf fr s ab part, ())) := by
  have hx := hp.get 0
  have h3 : b8_3 (part, 1, e, n, (fr : Int), (s : Int), res, out, ab, ()) = some (.inl (part, tagOf fr part, e, n, (fr : Int), (s : Int), res, out, ab, ())) := by
    unfold b8_3 tagOf
    dsimp only
    by_cases h1 : fr = 1
    · subst h1
      rw [if_pos (beq_iff_eq.2 (by omega)), if_pos (by omega), if_pos rfl, if_pos rfl, if_pos rfl, wrap_i64 (by omega), if_pos rfl]
    · rw [if_neg (fun h => h1 (by have := beq_iff_eq.1 h; omega)), if_pos rfl, if_pos rfl, if_pos rfl, if_neg h1]
  unfold b8_2
  dsimp only
  rw [if_pos rfl, if_pos rfl, if_pos rfl]
  repeat rw [full]
  rw [h3, Option.bind_some, Sum.elim_inl]
  dsimp only
  by_cases hc : 4 < tagOf fr part
  · have h1 : fr = 1 := by
      unfold tagOf at hc
      split at hc
      · assumption
      · omega
    rw [if_pos (decide_eq_true hc), if_pos ⟨h1, by unfold tagOf at hc; rwa [if_pos h1] at hc⟩]
  · rw [if_neg (fun h => hc (of_decide_eq_true h)), if_neg (fun h : fr = 1 ∧ 4 < part.getD 0 0 => hc (by unfold tagOf; rw [if_pos h.1]; exact h.2)), if_pos (by omega), if_pos (by omega), if_pos (by omega), if_pos (by omega), if_pos rfl, if_pos rfl, if_pos rfl, Int.toNat_natCast]
    have hrow : rowOf fr s ab part = uGo s (tagOf fr part) ab [] (part.drop fr) := rfl
    have h4 := l8_4_eqn (tag := tagOf fr part) (e := e) (n := n) (fr := (fr : Int)) (s := s) (data := part.drop fr) (res := res) (out := out) (ab := ab) (hp.drop fr) ha hs hs2 (by rw [List.length_drop]; omega)
    rw [← hrow] at h4
    have hrl : (rowOf fr s ab part).length ≤ 1099511627776 := by rw [hrow, uGo_len, List.length_drop]; omega
    generalize rowOf fr s ab part = row at h4 hrl
    repeat rw [full]
    generalize hX : l8_4 _ = X
    rw [show X = _ from hX.symm.trans h4, Option.bind_some, Sum.elim_inl]
    dsimp only
    repeat rw [full]
    rw [if_pos (by omega), if_pos rfl, if_pos rfl, if_pos rfl]
    repeat rw [full]

theorem range8 {e n : Int} {fr s : Nat} {res : List Int} (hn : 0 ≤ n ∧ n ≤ 1099511627776) (hf : fr ≤ 1) (hs : 1 ≤ s) (hs2 : s ≤ 1000) : ∀ (l : List (List Int)) (out ab : List Int), IsB ab → (∀ c ∈ l, IsB c ∧ 1 ≤ c.length) → out.length + l.flatten.length ≤ 1099511627776 →
    match uL fr s ab l with
    | none => rangeN r8_2 o8_2 (fun x c => b8_2 (x, c)) l (e, n, (fr : Int), (s : Int), res, out, ab, ()) = some (.inr (.inl (4, [], ())))
    | some z => ∃ ab', rangeN r8_2 o8_2 (fun x c => b8_2 (x, c)) l (e, n, (fr : Int), (s : Int), res, out, ab, ()) = some (.inl (e, n, (fr : Int), (s : Int), res, out ++ z, ab', ()))
  | [], out, ab, _, _, _ => ⟨ab, by rw [rangeN_nil, List.append_nil]⟩
  | c :: l, out, ab, ha, h, hl => by
    obtain ⟨hc1, hc2⟩ := h c (List.mem_cons_self ..)
    rw [List.flatten_cons, List.length_append] at hl
    have hb := b8_2_eqn (e := e) (res := res) (out := out) hn hf hc1 ha hs hs2 (by omega) (by omega) (by omega)
    rw [uL_cons]
    by_cases ht : fr = 1 ∧ 4 < c.getD 0 0
    · rw [if_pos ht] at hb ⊢
      dsimp only
      rw [rangeN_cons]
      rw [hb]; rfl
    · rw [if_neg ht] at hb ⊢
      have hrow : (rowOf fr s ab c).length ≤ c.length := by unfold rowOf; rw [uGo_len, List.length_drop]; omega
      have ih := range8 (e := e) (res := res) hn hf hs hs2 l (out ++ rowOf fr s ab c) (rowOf fr s ab c) uGo_isB (fun d hd => h d (List.mem_cons_of_mem _ hd)) (by rw [List.length_append]; omega)
      have hk : rangeN r8_2 o8_2 (fun x c => b8_2 (x, c)) (c :: l) (e, n, (fr : Int), (s : Int), res, out, ab, ()) = rangeN r8_2 o8_2 (fun x c => b8_2 (x, c)) l (e, n, (fr : Int), (s : Int), res, out ++ rowOf fr s ab c, rowOf fr s ab c, ()) := by
        rw [rangeN_cons]
        rw [hb]; rfl
      cases hu : uL fr s (rowOf fr s ab c) l with
      | none => rw [hu] at ih; exact hk.trans ih
      | some z =>
        rw [hu] at ih
        obtain ⟨ab', ih⟩ := ih
        exact ⟨ab', by rw [hk, ih, List.append_assoc]⟩

/-! ### Do -/
def dRow (fr s : Nat) (tag : Int) (ab c : List Int) : List Int := (if fr = 1 then [tag] else []) ++ dGo s (if fr = 1 then tag else 1) ab [] c
theorem dR_cons {fr s : Nat} {tag : Int} {ab c : List Int} {cs : List (List Int)} : dR fr s tag ab (c :: cs) = dRow fr s tag ab c :: dR fr s tag c cs := rfl
theorem dRow_len {fr s : Nat} (hf : fr ≤ 1) {tag : Int} {ab c : List Int} : (dRow fr s tag ab c).length = fr + c.length := by
  unfold dRow
  rw [List.length_append, dGo_len]
  rcases (by omega : fr = 0 ∨ fr = 1) with rfl | rfl <;> rfl

theorem b10_5_eqn {p c b w tag : Int} {st : Int} {row out ab : List Int} (ht : 0 ≤ tag ∧ tag ≤ 4) (ho : out.length ≤ 1099511627776) :
    b10_5 (row, 1, p, c, b, w, tag, st, ab, out, ()) = some (.inl (row, (if 10 ≤ p then tag else 1), p, c, b, w, tag, st, ab, out ++ (if 10 ≤ p then [tag] else []), ())) := by
  unfold b10_5
  dsimp only
  by_cases h : p ≥ 10
  · rw [if_pos (decide_eq_true h)]
    repeat rw [full]
    rw [one_row, wrap_u8, if_pos (by simp; omega), if_pos rfl, if_pos h, if_pos h]
    repeat rw [full]
    rw [show tag % 256 = tag by omega]
  · rw [if_neg (fun h' => h (of_decide_eq_true h')), if_pos rfl, if_neg h, if_neg h]
    repeat rw [full]
    rw [List.append_nil]

theorem b10_4_eqn {p c b w tag : Int} {s : Nat} {row out ab : List Int} (ht : 0 ≤ tag ∧ tag ≤ 4) (hd : IsB row) (ha : IsB ab) (hs : 1 ≤ s) (hs2 : s ≤ 1000) (hl : row.length ≤ 1099511627776) (ho : out.length + 1 ≤ 1099511627776) :
    b10_4 ((p, c, b, w, tag, (s : Int), ab, out, ()), row) = some (.inl (p, c, b, w, tag, (s : Int), row, out ++ dRow (if 10 ≤ p then 1 else 0) s tag ab row, ())) := by
  unfold b10_4
  dsimp only
  rw [if_pos rfl]
  repeat rw [full]
  rw [b10_5_eqn ht (by omega), Option.bind_some, Sum.elim_inl]
  dsimp only
  have h6 := l10_6_eqn (how := (if 10 ≤ p then tag else 1)) (p := p) (c := c) (b := b) (w := w) (tag := tag) (s := s) (data := row) (out := out ++ (if 10 ≤ p then [tag] else [])) hd ha hs hs2 hl (by rw [List.length_append]; split <;> simp <;> omega)
  have he : out ++ (if 10 ≤ p then [tag] else []) ++ dGo s (if 10 ≤ p then tag else 1) ab [] row = out ++ dRow (if 10 ≤ p then 1 else 0) s tag ab row := by
    unfold dRow
    rw [List.append_assoc]
    by_cases h : 10 ≤ p
    · simp only [if_pos h, if_true]
    · simp only [if_neg h, Nat.zero_ne_one, if_false]
  rw [he] at h6
  rw [if_pos rfl]
  repeat rw [full]
  generalize hX : l10_6 _ = X
  rw [show X = _ from hX.symm.trans h6, Option.bind_some, Sum.elim_inl]
  dsimp only
  rw [if_pos rfl]
  repeat rw [full]

theorem range10 {p c b w tag : Int} {s : Nat} (ht : 0 ≤ tag ∧ tag ≤ 4) (hs : 1 ≤ s) (hs2 : s ≤ 1000) : ∀ (l : List (List Int)) (out ab : List Int), IsB ab → (∀ c ∈ l, IsB c ∧ 1 ≤ c.length) → out.length + 2 * l.flatten.length + 1 ≤ 1099511627776 →
    ∃ ab', rangeN r10_4 o10_4 (fun x c => b10_4 (x, c)) l (p, c, b, w, tag, (s : Int), ab, out, ()) = some (.inl (p, c, b, w, tag, (s : Int), ab', out ++ (dR (if 10 ≤ p then 1 else 0) s tag ab l).flatten, ()))
  | [], out, ab, _, _, _ => ⟨ab, by rw [rangeN_nil]; unfold dR; rw [List.flatten_nil, List.append_nil]⟩
  | r :: l, out, ab, ha, h, hl => by
    obtain ⟨hc1, hc2⟩ := h r (List.mem_cons_self ..)
    rw [List.flatten_cons, List.length_append] at hl
    have hb := b10_4_eqn (p := p) (c := c) (b := b) (w := w) (out := out) ht hc1 ha hs hs2 (by omega) (by omega)
    have hrl : (dRow (if 10 ≤ p then 1 else 0) s tag ab r).length ≤ 1 + r.length := by rw [dRow_len (by split <;> omega)]; split <;> omega
    obtain ⟨ab', ih⟩ := range10 (p := p) (c := c) (b := b) (w := w) ht hs hs2 l (out ++ dRow (if 10 ≤ p then 1 else 0) s tag ab r) r hc1 (fun d hd => h d (List.mem_cons_of_mem _ hd)) (by rw [List.length_append]; omega)
    refine ⟨ab', ?_⟩
    rw [rangeN_cons, dR_cons, List.flatten_cons, ← List.append_assoc, ← ih]
    rw [hb]; rfl

/-! ### The document's own -/
theorem b9_3_eqn {b out ab : List Int} {n s : Int} {fr i : Nat} (hf : fr ≤ 1) (hb : IsB b) (hi : i < b.length) : b9_3 (b, n, s, (fr : Int), (i : Int), 1, out, ab, ()) = some (.inl (b, n, s, (fr : Int), (i : Int), tagOf fr (b.drop i), out, ab, ())) := by
  have hx := hb.get i
  unfold b9_3 tagOf
  dsimp only
  by_cases h1 : fr = 1
  · subst h1
    rw [if_pos (beq_iff_eq.2 (by omega)), if_pos (by omega), if_pos (by omega), if_pos rfl, if_pos rfl, Int.toNat_natCast, wrap_i64 (by omega), if_pos rfl]
    simp [List.getD_eq_getElem?_getD, List.getElem?_drop]
  · rw [if_neg (fun h => h1 (by have := beq_iff_eq.1 h; omega)), if_pos rfl, if_pos rfl, if_neg h1]

theorem l9_2_eqn {b : List Int} {n s fr : Nat} (hb : IsB b) (hl : b.length ≤ 1048576) (hf : fr ≤ 1) (hn : 1 ≤ n) (hn2 : n ≤ 1099511627776) (hs : 1 ≤ s) (hs2 : s ≤ 1000) : ∀ (k i : Nat) (out ab : List Int), b.length - i < k → i ≤ b.length → (b.length - i) % (n + fr) = 0 → IsB ab → out.length ≤ i →
    loopN g9_2 o9_2 b9_2 k (b, (n : Int), (s : Int), (fr : Int), (i : Int), out, ab, ()) = match uL fr s ab (chunkL (n + fr) (b.drop i)) with
      | none => some (.inr (.inl ([], 4, ())))
      | some z => some (.inl (out ++ z, ()))
  | 0, _, _, _, h, _, _, _, _ => by omega
  | k + 1, i, out, ab, h, hi, hm, ha, ho => by
    rw [loopN_succ]
    unfold b9_2
    dsimp only
    by_cases hc : i < b.length
    · have hne : b.drop i ≠ [] := by intro e; have := congrArg List.length e; rw [List.length_drop, List.length_nil] at this; omega
      have hge : n + fr ≤ b.length - i := by
        rcases Nat.lt_or_ge (b.length - i) (n + fr) with h1 | h1
        · rw [Nat.mod_eq_of_lt h1] at hm; omega
        · exact h1
      rw [if_pos (by rw [decide_eq_true_eq]; omega), if_pos rfl, if_pos rfl]
      repeat rw [full]
      rw [b9_3_eqn hf hb hc, Option.bind_some, Sum.elim_inl]
      dsimp only
      rw [chunkL_cons (by omega) hne, uL_cons]
      have htag : tagOf fr (b.drop i) = tagOf fr ((b.drop i).take (n + fr)) := by
        unfold tagOf
        split
        · rw [List.getD_eq_getElem?_getD, List.getD_eq_getElem?_getD, List.getElem?_take, if_pos (by omega)]
        · rfl
      rw [htag]
      generalize hpart : (b.drop i).take (n + fr) = part
      have hpl : part.length = n + fr := by rw [← hpart, List.length_take, List.length_drop]; omega
      have hpb : IsB part := by rw [← hpart]; exact (hb.drop _).take _
      by_cases ht : 4 < tagOf fr part
      · have h1 : fr = 1 := by
          unfold tagOf at ht
          split at ht
          · assumption
          · omega
        rw [if_pos (decide_eq_true ht), if_pos ⟨h1, by unfold tagOf at ht; rwa [if_pos h1] at ht⟩]
        rfl
      · rw [if_neg (fun h => ht (of_decide_eq_true h)), if_neg (fun h : fr = 1 ∧ 4 < part.getD 0 0 => ht (by unfold tagOf; rw [if_pos h.1]; exact h.2)), if_pos rfl, if_pos rfl]
        repeat rw [full]
        have hdat : part.drop fr = (b.drop (i + fr)).take n := by
          rw [← hpart, List.drop_take, List.drop_drop, Nat.add_sub_cancel]
        have h4 := l9_4_eqn (tag := tagOf fr part) (fr := (fr : Int)) (s := s) (n := n) (i := i) (f := fr) (b := b) (out := out) (ab := ab) hb ha hs hs2 rfl (by omega) (by omega) hdat
        have hrow : rowOf fr s ab part = uGo s (tagOf fr part) ab [] (part.drop fr) := rfl
        rw [← hrow] at h4
        have hrl : (rowOf fr s ab part).length = n := by rw [hrow, uGo_len, List.length_drop]; omega
        have hrb : IsB (rowOf fr s ab part) := uGo_isB
        generalize rowOf fr s ab part = row at h4 hrl hrb
        generalize hX : l9_4 _ = X
        rw [show X = _ from hX.symm.trans h4, Option.bind_some, Sum.elim_inl]
        dsimp only
        repeat rw [full]
        rw [if_pos (by omega), if_pos rfl, if_pos rfl, wrap_i64 (n := (i : Int) + n) (by omega), wrap_i64 (by omega)]
        repeat rw [full]
        rw [Option.bind_some, Sum.elim_inl, show (i : Int) + n + fr = ((i + (n + fr) : Nat) : Int) by omega]
        have ih := l9_2_eqn hb hl hf hn hn2 hs hs2 k (i + (n + fr)) (out ++ row) row (by omega) (by omega) (by rw [show b.length - (i + (n + fr)) = b.length - i - (n + fr) by omega, ← Nat.mod_eq_sub_mod hge]; exact hm) hrb (by rw [List.length_append]; omega)
        refine ih.trans ?_
        rw [← List.drop_drop]
        cases uL fr s row (chunkL (n + fr) ((b.drop i).drop (n + fr))) with
        | none => rfl
        | some z => rw [Option.map_some]; dsimp only; rw [List.append_assoc]
    · have e1 : i = b.length := by omega
      subst e1
      rw [if_neg (by rw [decide_eq_true_eq]; omega), if_pos rfl, List.drop_length, chunkL_nil _ (by omega)]
      unfold uL
      dsimp only
      repeat rw [full]
      rw [List.append_nil]
      rfl

theorem b11_2_eqn {p c b w tag n s i : Int} {bs row out ab : List Int} (ht : 0 ≤ tag ∧ tag ≤ 4) (ho : out.length ≤ 1099511627776) (hp : p = 2 ∨ 10 ≤ p) :
    b11_2 (tag, bs, n, s, ab, i, row, 1, p, c, b, w, out, ()) = some (.inl (tag, bs, n, s, ab, i, row, (if 10 ≤ p then tag else 1), p, c, b, w, out ++ (if 10 ≤ p then [tag] else []), ())) := by
  unfold b11_2
  dsimp only
  by_cases h : 10 ≤ p
  · rw [if_pos (decide_eq_true (by omega))]
    repeat rw [full]
    rw [one_row, wrap_u8, if_pos (by simp; omega), if_pos rfl, if_pos h, if_pos h]
    repeat rw [full]
    rw [show tag % 256 = tag by omega]
  · rw [if_neg (fun h' => h (by have := of_decide_eq_true h'; omega)), if_pos rfl, if_neg h, if_neg h]
    repeat rw [full]
    rw [List.append_nil]

theorem l11_1_eqn {p c w tag bb : Int} {b : List Int} {n s : Nat} (hb : IsB b) (hl : b.length ≤ 1048576) (hp : p = 2 ∨ 10 ≤ p) (ht : 0 ≤ tag ∧ tag ≤ 4) (hn : 1 ≤ n) (hn2 : n ≤ 1099511627776) (hs : 1 ≤ s) (hs2 : s ≤ 1000) : ∀ (k i : Nat) (out ab : List Int), b.length - i < k → i ≤ b.length → (b.length - i) % n = 0 → IsB ab → out.length ≤ 2 * i →
    loopN g11_1 o11_1 b11_1 k (tag, b, (n : Int), (s : Int), ab, (i : Int), p, c, bb, w, out, ()) = some (.inl (out ++ (dR (if 10 ≤ p then 1 else 0) s tag ab (chunkL n (b.drop i))).flatten, ()))
  | 0, _, _, _, h, _, _, _, _ => by omega
  | k + 1, i, out, ab, h, hi, hm, ha, ho => by
    rw [loopN_succ]
    unfold b11_1
    dsimp only
    by_cases hc : i < b.length
    · have hne : b.drop i ≠ [] := by intro e; have := congrArg List.length e; rw [List.length_drop, List.length_nil] at this; omega
      have hge : n ≤ b.length - i := by
        rcases Nat.lt_or_ge (b.length - i) n with h1 | h1
        · rw [Nat.mod_eq_of_lt h1] at hm; omega
        · exact h1
      rw [if_pos (by rw [decide_eq_true_eq]; omega), wrap_i64 (n := (i : Int) + n) (by omega), if_pos (by omega), if_pos (by omega), if_pos (by omega), if_pos (by omega), if_pos rfl]
      repeat rw [full]
      rw [show ((i : Int) + n).toNat = i + n by omega, Int.toNat_natCast]
      have hpart : List.drop i (List.take (i + n) b) = (b.drop i).take n := by rw [List.drop_take, Nat.add_sub_cancel_left]
      rw [hpart, chunkL_cons hn hne, dR_cons, List.flatten_cons, ← List.append_assoc]
      generalize hpart' : (b.drop i).take n = part
      have hpl : part.length = n := by rw [← hpart', List.length_take, List.length_drop]; omega
      have hpb : IsB part := by rw [← hpart']; exact (hb.drop _).take _
      rw [b11_2_eqn ht (by omega) hp, Option.bind_some, Sum.elim_inl]
      dsimp only
      have h6 := l11_3_eqn (how := (if 10 ≤ p then tag else 1)) (p := p) (c := c) (b := bb) (w := w) (tag := tag) (i := (i : Int)) (s := s) (bs := b) (data := part) (ab := ab) (out := out ++ (if 10 ≤ p then [tag] else [])) hpb hpl ha hs hs2 (by omega) (by rw [List.length_append]; split <;> simp <;> omega)
      have he : out ++ (if 10 ≤ p then [tag] else []) ++ dGo s (if 10 ≤ p then tag else 1) ab [] part = out ++ dRow (if 10 ≤ p then 1 else 0) s tag ab part := by
        unfold dRow
        rw [List.append_assoc]
        by_cases h : 10 ≤ p
        · simp only [if_pos h, if_true]
        · simp only [if_neg h, Nat.zero_ne_one, if_false]
      rw [he] at h6
      rw [if_pos rfl]
      repeat rw [full]
      generalize hX : l11_3 _ = X
      rw [show X = _ from hX.symm.trans h6, Option.bind_some, Sum.elim_inl]
      dsimp only
      rw [if_pos rfl]
      repeat rw [full]
      rw [wrap_i64 (by omega), Option.bind_some, Sum.elim_inl, show (i : Int) + n = ((i + n : Nat) : Int) by omega]
      have hrl : (dRow (if 10 ≤ p then 1 else 0) s tag ab part).length ≤ 1 + part.length := by rw [dRow_len (by split <;> omega)]; split <;> omega
      have ih := l11_1_eqn (p := p) (c := c) (w := w) (bb := bb) hb hl hp ht hn hn2 hs hs2 k (i + n) (out ++ dRow (if 10 ≤ p then 1 else 0) s tag ab part) part (by omega) (by omega) (by rw [show b.length - (i + n) = b.length - i - n by omega, ← Nat.mod_eq_sub_mod hge]; exact hm) hpb (by rw [List.length_append]; omega)
      rw [← List.drop_drop] at ih
      exact ih
    · have e1 : i = b.length := by omega
      subst e1
      rw [if_neg (by rw [decide_eq_true_eq]; omega), if_pos rfl, List.drop_length, chunkL_nil _ (by omega)]
      unfold dR
      repeat rw [full]
      rw [List.flatten_nil, List.append_nil]
      rfl
end Go.Ev.Pre
