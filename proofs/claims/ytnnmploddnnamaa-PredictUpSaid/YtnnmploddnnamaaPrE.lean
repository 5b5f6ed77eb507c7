/- Part of a proof about the given program: PrE. -/
import Derived.Test.YtnnmploddnnamaaPrD
namespace Go.Ev.Pre
set_option maxRecDepth 100000

/-! ## The functions, whole -/
def frOf (p : Int) : Nat := if 10 ≤ p then 1 else 0
theorem frOf_le (p : Int) : frOf p ≤ 1 := by unfold frOf; split <;> omega
def undoF (p c bb w : Int) (b : List Int) : Int × List Int :=
  if chk p c bb w ≠ 0 then (chk p c bb w, []) else if 1048576 < b.length then (2, []) else if p = 1 then (0, b) else
    if b.length % (rowN c bb w + frOf p) ≠ 0 then (4, []) else
      match uL (frOf p) (stepN c bb) [] (chunkL (rowN c bb w + frOf p) b) with
      | none => (4, [])
      | some z => (0, z)
def doF (p c bb w tag : Int) (b : List Int) : Int × List Int :=
  if chk p c bb w ≠ 0 then (chk p c bb w, []) else if tag < 0 ∨ 4 < tag then (1, []) else if 1048576 < b.length then (2, []) else if p = 1 then (0, b) else
    if b.length % rowN c bb w ≠ 0 then (4, []) else (0, (dR (frOf p) (stepN c bb) tag [] (chunkL (rowN c bb w) b)).flatten)

theorem f17_eqn {p c bb w : Int} {b : List Int} {r : Nat} (hr : 1 ≤ r) : f17 (p, c, bb, w, b, (r : Int), ()) = some ((if chk p c bb w ≠ 0 then chk p c bb w else if 1048576 < b.length then 2 else if p = 1 then 0 else if b.length % r ≠ 0 then 4 else 0), ()) := by
  unfold f17
  dsimp only
  rw [f13_eqn, Option.bind_some]
  dsimp only
  by_cases h1 : chk p c bb w = 0
  · rw [h1, if_neg (by simp), if_neg (show ¬ (0 : Int) ≠ 0 by simp)]
    by_cases h2 : 1048576 < b.length
    · rw [if_pos (decide_eq_true (by omega)), if_pos h2]
    · rw [if_neg (fun h => h2 (by have := of_decide_eq_true h; omega)), if_neg h2]
      by_cases h3 : p = 1
      · rw [if_neg (by simp [h3]), if_pos h3]
      · rw [if_pos (by simp [h3]), if_neg h3, if_neg (by omega)]
        have e : Int.tmod (b.length : Int) (r : Int) = ((b.length % r : Nat) : Int) := by rw [Int.tmod_eq_emod_of_nonneg (by omega)]; omega
        rw [e]
        by_cases h4 : b.length % r = 0
        · rw [h4]; rfl
        · rw [if_pos (by simp; omega), if_pos h4]
  · rw [if_pos (by simpa using h1), if_pos h1]
theorem f18_eqn {xs : List Int} (h : xs.length ≤ 140737488355328) : f18 (xs, ()) = some (xs, ()) := by
  unfold f18
  have e : List.take (0 : Nat) (List.drop (0 : Nat) (List.replicate (0 : Nat) (0 : Int))) ++ xs = xs := rfl
  simp only [Nat.zero_add]
  rw [e, if_pos h]
  simp only [if_true]
  by_cases h0 : xs.length = 0
  · rw [if_pos h0]
    have : xs = [] := List.eq_nil_of_length_eq_zero h0
    subst this
    exact amb_self (eq := go18.eq) go18.eq_refl _
  · rw [if_neg h0]
theorem f7_eqn {xs : List Int} (h : xs.length ≤ 140737488355328) : f7 (xs, ()) = some (xs, ()) := by
  unfold f7
  dsimp only
  rw [if_pos (by simp only [Nat.zero_add]; exact h), if_pos (by omega), if_pos rfl]
  rfl
theorem f20_eqn {b : List Int} {n : Int} (h : 1 ≤ n) : f20 (b, n, ()) = some (b, n, ()) := by
  unfold f20
  dsimp only
  rw [if_neg (fun h' => by have := of_decide_eq_true h'; omega)]

theorem chunk_ok {n : Nat} (hn : 1 ≤ n) {b : List Int} (hb : IsB b) : ∀ c ∈ chunkL n b, IsB c ∧ 1 ≤ c.length := by
  refine chunkL_ind (n := n) hn (fun b => IsB b → ∀ c ∈ chunkL n b, IsB c ∧ 1 ≤ c.length) (fun _ => by rw [chunkL_nil n hn]; intro c h; cases h) (fun xs h ih hx c hc => ?_) b hb
  have h1 : 1 ≤ xs.length := List.length_pos_iff.2 h
  rw [chunkL_cons hn h] at hc
  rcases List.mem_cons.1 hc with rfl | hc
  · exact ⟨hx.take _, by rw [List.length_take]; omega⟩
  · exact ih (hx.drop n) c hc

theorem b8_1_eqn {b res : List Int} {p c bb w e n : Int} : b8_1 (b, p, c, bb, w, e, n, 0, res, ()) = some (.inl (b, p, c, bb, w, e, n, (frOf p : Int), res, ())) := by
  unfold b8_1 frOf
  dsimp only
  by_cases h : 10 ≤ p
  · rw [if_pos (decide_eq_true h), if_pos rfl, if_pos h]; rfl
  · rw [if_neg (fun h' => h (of_decide_eq_true h')), if_pos rfl, if_neg h]; rfl
theorem f8_eqn {p c bb w : Int} {b : List Int} (hb : IsB b) : f8 (p, c, bb, w, b, ()) = some ((undoF p c bb w b).1, (undoF p c bb w b).2, ()) := by
  obtain ⟨n, hn⟩ : ∃ n : Nat, f15 (p, c, bb, w, ()) = some ((n : Int), ()) ∧ n ≤ 4194304 ∧ (chk p c bb w ≠ 1 → n = rowN c bb w) := by
    by_cases h : chk p c bb w = 1
    · exact ⟨0, f15_no h, by omega, fun h' => absurd h h'⟩
    · exact ⟨rowN c bb w, f15_is (chk_ok h) h, (chk_ok h).row.2, fun _ => rfl⟩
  obtain ⟨h15, hn1, hn2⟩ := hn
  have hf := frOf_le p
  unfold f8
  dsimp only
  rw [h15, Option.bind_some]
  dsimp only
  rw [b8_1_eqn, Option.bind_some, Sum.elim_inl]
  dsimp only
  rw [wrap_i64 (n := (n : Int) + frOf p) (by omega), show max ((n : Int) + frOf p) 1 = ((max (n + frOf p) 1 : Nat) : Int) by omega, f17_eqn (by omega), Option.bind_some]
  dsimp only
  unfold undoF
  by_cases h1 : chk p c bb w = 0
  · obtain ⟨hok, _⟩ := chk_zero h1
    have hr := hok.row
    have hs := hok.step
    obtain rfl := hn2 (by omega)
    rw [if_neg (by omega : ¬ chk p c bb w ≠ 0), if_neg (by omega : ¬ chk p c bb w ≠ 0)]
    by_cases h2 : 1048576 < b.length
    · rw [if_pos h2, if_pos h2]; rfl
    · rw [if_neg h2, if_neg h2]
      by_cases h3 : p = 1
      · rw [if_pos h3, if_pos h3, if_neg (by simp), if_pos (beq_iff_eq.2 h3), f18_eqn (by omega), Option.bind_some]
        dsimp only
        rw [if_pos rfl]
        first | rw [full b] | skip
      · rw [if_neg h3, if_neg h3, show max (rowN c bb w + frOf p) 1 = rowN c bb w + frOf p by omega]
        by_cases h4 : b.length % (rowN c bb w + frOf p) = 0
        · rw [if_neg (by omega : ¬ b.length % (rowN c bb w + frOf p) ≠ 0), if_neg (by omega : ¬ b.length % (rowN c bb w + frOf p) ≠ 0), if_neg (by simp), if_neg (by simpa using h3), wrap_i64 (n := c * bb) (by have := hok.cb; omega), f19_eqn (by have := hok.cb; omega) (by have := hok.cb; omega), Option.bind_some]
          dsimp only
          rw [f20_eqn (by omega), Option.bind_some]
          dsimp only
          have hR := range8 (e := 0) (n := (rowN c bb w : Int)) (fr := frOf p) (s := stepN c bb) (res := []) (by omega) hf hs.1 (by omega) (chunkL (rowN c bb w + frOf p) b) [] [] IsB.nil (chunk_ok (by omega) hb) (by rw [chunkL_flat (by omega)]; simp; omega)
          have hl : l8_2 (0, (rowN c bb w : Int), (frOf p : Int), (stepN c bb : Int), [], [], [], b, (rowN c bb w : Int) + frOf p, ()) = rangeN r8_2 o8_2 (fun x c => b8_2 (x, c)) (chunkL (rowN c bb w + frOf p) b) (0, (rowN c bb w : Int), (frOf p : Int), (stepN c bb : Int), [], [], [], ()) := by
            unfold l8_2 rangeF
            dsimp only
            rw [if_pos (by omega), show ((rowN c bb w : Int) + frOf p).toNat = rowN c bb w + frOf p by omega]
          rw [if_pos rfl, show (((c * bb + 7) / 8).toNat : Int) = (stepN c bb : Int) from rfl]
          cases hu : uL (frOf p) (stepN c bb) [] (chunkL (rowN c bb w + frOf p) b) with
          | none =>
            rw [hu] at hR
            generalize hX : l8_2 _ = X
            rw [show X = _ from hX.symm.trans (hl.trans hR), Option.bind_some, Sum.elim_inr, Sum.elim_inl]
            rfl
          | some z =>
            rw [hu] at hR
            obtain ⟨ab', hR⟩ := hR
            generalize hX : l8_2 _ = X
            rw [show X = _ from hX.symm.trans (hl.trans hR), Option.bind_some, Sum.elim_inl, List.nil_append]
            dsimp only
            rw [if_pos rfl]
            first | rw [full z] | skip
        · rw [if_pos h4, if_pos h4]; rfl
  · rw [if_pos h1, if_pos h1, if_pos (by simpa using h1)]

theorem f9_eqn {p c bb w : Int} {b : List Int} (hb : IsB b) : f9 (p, c, bb, w, b, ()) = some ((undoF p c bb w b).2, (undoF p c bb w b).1, ()) := by
  have hf := frOf_le p
  unfold f9
  dsimp only
  rw [f14_eqn, Option.bind_some]
  dsimp only
  unfold undoF
  by_cases h1 : chk p c bb w = 0
  · obtain ⟨hok, _⟩ := chk_zero h1
    have hr := hok.row
    have hs := hok.step
    rw [if_neg (by simpa using h1), if_neg (by omega : ¬ chk p c bb w ≠ 0)]
    by_cases h2 : 1048576 < b.length
    · rw [if_pos h2, if_pos (decide_eq_true (by omega))]
    · rw [if_neg h2, if_neg (fun h => h2 (by have := of_decide_eq_true h; omega))]
      by_cases h3 : p = 1
      · rw [if_pos h3, if_pos (beq_iff_eq.2 h3), f7_eqn (by omega), Option.bind_some]
        dsimp only
        first | rw [full b] | skip
      · rw [if_neg h3, if_neg (fun h => h3 (beq_iff_eq.1 h)), f16_is hok (by omega), Option.bind_some]
        dsimp only
        rw [f23_is hok, Option.bind_some]
        have h91 : b9_1 (b, (rowN c bb w : Int), (stepN c bb : Int), 1, p, c, bb, w, ()) = some (.inl (b, (rowN c bb w : Int), (stepN c bb : Int), (frOf p : Int), ())) := by
          unfold b9_1 frOf
          dsimp only
          by_cases h5 : p = 2
          · rw [if_pos (beq_iff_eq.2 h5), if_neg (by omega)]; rfl
          · rw [if_neg (fun h => h5 (beq_iff_eq.1 h)), if_pos (by have := hok.p; omega)]; rfl
        dsimp only
        rw [h91, Option.bind_some, Sum.elim_inl]
        dsimp only
        rw [wrap_i64 (n := (rowN c bb w : Int) + frOf p) (by omega), if_neg (by omega)]
        have e : Int.tmod (b.length : Int) ((rowN c bb w : Int) + frOf p) = ((b.length % (rowN c bb w + frOf p) : Nat) : Int) := by rw [Int.tmod_eq_emod_of_nonneg (by omega), ← Int.natCast_add, ← Int.natCast_emod]
        rw [e]
        by_cases h4 : b.length % (rowN c bb w + frOf p) = 0
        · rw [if_neg (by rw [h4]; decide), if_neg (by omega)]
          have hR := l9_2_eqn (n := rowN c bb w) (s := stepN c bb) (fr := frOf p) hb (by omega) hf hr.1 (by omega) hs.1 (by omega) 18446744073709551616 0 [] [] (by omega) (by omega) (by simpa using h4) IsB.nil (by simp)
          have hR' : l9_2 (b, (rowN c bb w : Int), (stepN c bb : Int), (frOf p : Int), 0, [], [], ()) = _ := hR
          rw [List.drop_zero] at hR'
          rw [hR']
          cases hu : uL (frOf p) (stepN c bb) [] (chunkL (rowN c bb w + frOf p) b) with
          | none => rfl
          | some z =>
            dsimp only
            rw [Option.bind_some, Sum.elim_inl, List.nil_append]
            dsimp only
            first | rw [full z] | skip
        · rw [if_pos (bne_iff_ne.2 (fun h => h4 (by omega))), if_pos h4]
  · rw [if_pos (by simpa using h1), if_pos h1]

theorem f10_eqn {p c bb w tag : Int} {b : List Int} (hb : IsB b) : f10 (p, c, bb, w, tag, b, ()) = some ((doF p c bb w tag b).1, (doF p c bb w tag b).2, ()) := by
  have hf := frOf_le p
  have h101 : b10_1 (b, chk p c bb w, p, c, bb, w, tag, ()) = some (.inl (b, (if chk p c bb w ≠ 0 then chk p c bb w else if tag < 0 ∨ 4 < tag then 1 else 0), p, c, bb, w, tag, ())) := by
    unfold b10_1 b10_2
    dsimp only
    by_cases h1 : chk p c bb w = 0
    · rw [h1, if_pos (show ((0 : Int) == 0) = true by decide), if_neg (show ¬ (0 : Int) ≠ 0 by decide)]
      by_cases h2 : tag < 0
      · rw [if_pos (decide_eq_true h2), if_pos (.inl h2), Option.bind_some, Sum.elim_inl]; rfl
      · rw [if_neg (fun h => h2 (of_decide_eq_true h)), Option.bind_some, Sum.elim_inl]
        dsimp only
        by_cases h3 : 4 < tag
        · rw [if_pos (decide_eq_true h3), if_pos (.inr h3)]
        · rw [if_neg (fun h => h3 (of_decide_eq_true h)), if_neg (by omega)]
    · rw [if_neg (by simpa using h1), if_pos h1, Option.bind_some, Sum.elim_inl]; rfl
  unfold f10
  dsimp only
  rw [f13_eqn, Option.bind_some]
  dsimp only
  rw [h101, Option.bind_some, Sum.elim_inl]
  dsimp only
  obtain ⟨n, h15, hn1, hn2⟩ : ∃ n : Nat, f15 (p, c, bb, w, ()) = some ((n : Int), ()) ∧ n ≤ 4194304 ∧ (chk p c bb w ≠ 1 → n = rowN c bb w) := by
    by_cases h : chk p c bb w = 1
    · exact ⟨0, f15_no h, by omega, fun h' => absurd h h'⟩
    · exact ⟨rowN c bb w, f15_is (chk_ok h) h, (chk_ok h).row.2, fun _ => rfl⟩
  rw [h15, Option.bind_some]
  dsimp only
  unfold doF b10_3
  dsimp only
  by_cases h1 : chk p c bb w = 0
  · obtain ⟨hok, _⟩ := chk_zero h1
    have hr := hok.row
    have hs := hok.step
    obtain rfl := hn2 (by omega)
    rw [if_neg (by omega : ¬ chk p c bb w ≠ 0), if_neg (by omega : ¬ chk p c bb w ≠ 0)]
    by_cases ht : tag < 0 ∨ 4 < tag
    · rw [if_pos ht, if_pos ht]; rfl
    · rw [if_neg ht, if_neg ht, if_pos (by decide), f17_eqn hr.1, if_neg (by omega : ¬ chk p c bb w ≠ 0), Option.bind_some, Option.bind_some, Sum.elim_inl]
      dsimp only
      by_cases h2 : 1048576 < b.length
      · rw [if_pos h2, if_pos h2]; rfl
      · rw [if_neg h2, if_neg h2]
        by_cases h3 : p = 1
        · rw [if_pos h3, if_pos h3, if_neg (by decide), if_pos (beq_iff_eq.2 h3), f18_eqn (by omega), Option.bind_some]
          dsimp only
          rw [if_pos rfl]
          first | rw [full b] | skip
        · rw [if_neg h3, if_neg h3]
          by_cases h4 : b.length % rowN c bb w = 0
          · rw [if_neg (by omega : ¬ b.length % rowN c bb w ≠ 0), if_neg (by omega : ¬ b.length % rowN c bb w ≠ 0), if_neg (by decide), if_neg (by simpa using h3), wrap_i64 (n := c * bb) (by have := hok.cb; omega), f19_eqn (by have := hok.cb; omega) (by have := hok.cb; omega), Option.bind_some]
            dsimp only
            rw [f20_eqn (by omega), Option.bind_some]
            dsimp only
            obtain ⟨ab', hR⟩ := range10 (p := p) (c := c) (b := bb) (w := w) (tag := tag) (s := stepN c bb) (by omega) hs.1 (by omega) (chunkL (rowN c bb w) b) [] [] IsB.nil (chunk_ok (by omega) hb) (by rw [chunkL_flat (by omega)]; simp; omega)
            have hl : l10_4 (p, c, bb, w, tag, (stepN c bb : Int), [], [], b, (rowN c bb w : Int), ()) = rangeN r10_4 o10_4 (fun x c => b10_4 (x, c)) (chunkL (rowN c bb w) b) (p, c, bb, w, tag, (stepN c bb : Int), [], [], ()) := by
              unfold l10_4 rangeF
              dsimp only
              rw [if_pos (by omega), Int.toNat_natCast]
            rw [show (((c * bb + 7) / 8).toNat : Int) = (stepN c bb : Int) from rfl]
            generalize hX : l10_4 _ = X
            rw [show X = _ from hX.symm.trans (hl.trans hR), Option.bind_some, Sum.elim_inl, List.nil_append]
            dsimp only
            rw [if_pos rfl]
            repeat rw [full]
            rfl
          · rw [if_pos h4, if_pos h4]; rfl
  · rw [if_pos h1, if_pos h1, if_neg (by simpa using h1), Option.bind_some, Sum.elim_inl]
    dsimp only
    rw [if_pos (by simpa using h1)]

theorem f11_eqn {p c bb w tag : Int} {b : List Int} (hb : IsB b) : f11 (p, c, bb, w, tag, b, ()) = some ((doF p c bb w tag b).1, (doF p c bb w tag b).2, ()) := by
  have hf := frOf_le p
  unfold f11
  dsimp only
  rw [f14_eqn, Option.bind_some]
  dsimp only
  unfold doF
  by_cases h1 : chk p c bb w = 0
  · obtain ⟨hok, _⟩ := chk_zero h1
    have hr := hok.row
    have hs := hok.step
    rw [if_neg (by simpa using h1), if_neg (by omega : ¬ chk p c bb w ≠ 0)]
    by_cases ht1 : tag < 0
    · rw [if_pos (decide_eq_true ht1), if_pos (.inl ht1)]
    rw [if_neg (fun h => ht1 (of_decide_eq_true h))]
    by_cases ht2 : 4 < tag
    · rw [if_pos (decide_eq_true ht2), if_pos (.inr ht2)]
    rw [if_neg (fun h => ht2 (of_decide_eq_true h)), if_neg (by omega : ¬ (tag < 0 ∨ 4 < tag))]
    by_cases h2 : 1048576 < b.length
    · rw [if_pos h2, if_pos (decide_eq_true (by omega))]
    · rw [if_neg h2, if_neg (fun h => h2 (by have := of_decide_eq_true h; omega))]
      by_cases h3 : p = 1
      · rw [if_pos h3, if_pos (beq_iff_eq.2 h3), f7_eqn (by omega), Option.bind_some]
        dsimp only
        rw [if_pos rfl]
        first | rw [full b] | skip
      · rw [if_neg h3, if_neg (fun h => h3 (beq_iff_eq.1 h)), f16_is hok (by omega), Option.bind_some]
        dsimp only
        rw [f23_is hok, Option.bind_some]
        dsimp only
        rw [if_neg (by omega)]
        have e : Int.tmod (b.length : Int) (rowN c bb w : Int) = ((b.length % rowN c bb w : Nat) : Int) := by rw [Int.tmod_eq_emod_of_nonneg (by omega)]; omega
        rw [e]
        by_cases h4 : b.length % rowN c bb w = 0
        · rw [if_neg (by rw [h4]; decide), if_neg (by omega)]
          have hR := l11_1_eqn (p := p) (c := c) (w := w) (bb := bb) (tag := tag) (n := rowN c bb w) (s := stepN c bb) hb (by omega) (by have := hok.p; omega) (by omega) hr.1 (by omega) hs.1 (by omega) 18446744073709551616 0 [] [] (by omega) (by omega) (by simpa using h4) IsB.nil (by simp)
          have hR' : l11_1 (tag, b, (rowN c bb w : Int), (stepN c bb : Int), [], 0, p, c, bb, w, [], ()) = _ := hR
          rw [List.drop_zero] at hR'
          rw [hR', Option.bind_some, Sum.elim_inl, List.nil_append]
          dsimp only
          rw [if_pos rfl]
          repeat rw [full]
          rfl
        · rw [if_pos (bne_iff_ne.2 (fun h => h4 (by omega))), if_pos h4]
  · rw [if_pos (by simpa using h1), if_pos h1]
end Go.Ev.Pre
