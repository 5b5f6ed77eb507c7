/- Part of a proof about the given program: HuffD. -/
import Derived.Test.YtcpkgneomhpipaaHuffC
namespace Go.Ev.Huff

/-! ## The reference's words -/
def part (l : List Int) (n s : Nat) : List Int := tab l.length (fun i => if 0 < l.getD i 0 ∧ (l.getD i 0 < (n : Int) ∨ (l.getD i 0 = (n : Int) ∧ i < s)) then code l i else 0)

theorem l10_2_spec {l : List Int} (hl : l.length ≤ 320) {n : Nat} (hn1 : 1 ≤ n) (hn : n ≤ 15) : ∀ (k s : Nat), l.length < s + k → s ≤ l.length →
    loopN g10_2 o10_2 b10_2 k (l, ((base l n + cnt (l.take s) n : Nat) : Int), (n : Int), (s : Int), part l n s, ()) = some (.inl (l, ((base l n + cnt l n : Nat) : Int), (n : Int), part l n l.length, ())) := by
  intro k
  induction k with
  | zero => intro s h1 h2; omega
  | succ k ih =>
    intro s h1 h2
    rw [loopN_succ]
    generalize hL : loopN g10_2 o10_2 b10_2 k = L at ih ⊢
    unfold b10_2
    simp only [Int.toNat_natCast, if_true, Nat.zero_add, List.length_set]
    rcases Nat.lt_or_ge s l.length with h | h
    · have hi0 : (0 : Int) ≤ (s : Int) := by omega
      have hi1 : (s : Int) < (l.length : Int) := by omega
      have hpl : (part l n s).length = l.length := tab_length _ _
      rw [if_pos (by rw [decide_eq_true_eq]; exact hi1), if_pos hi0, if_pos hi1]
      have e3 : IntKind.wrap IntKind.i64 ((s : Int) + 1) = ((s + 1 : Nat) : Int) := by rw [wrap_i64 (by omega)]; omega
      have hI := ih (s + 1) (by omega) (by omega)
      have hb := base_lim hl hn
      have hc : cnt (l.take s) n ≤ 320 := Nat.le_trans (cnt_le _ _) (by rw [List.length_take]; omega)
      have hcs : cnt (l.take (s + 1)) n = cnt (l.take s) n + if l.getD s 0 = (n : Int) then 1 else 0 := count_take_succ h _
      by_cases hx : l.getD s 0 = (n : Int)
      · rw [if_pos (by rw [hx]; simp), if_pos hi0, if_pos (by rw [hpl]; exact hi1)]
        simp only [Option.bind_some, Sum.elim_inl]
        rw [if_pos hx] at hcs
        have e4 : IntKind.wrap IntKind.i64 (((base l n + cnt (l.take s) n : Nat) : Int) + 1) = ((base l n + cnt (l.take (s + 1)) n : Nat) : Int) := by
          rw [wrap_i64 (by omega)]; omega
        have e5 : (part l n s).set s ((base l n + cnt (l.take s) n : Nat) : Int) = part l n (s + 1) := by
          unfold part
          rw [tab_set]
          refine tab_ext fun j hj => ?_
          by_cases ej : j = s
          · subst ej
            rw [if_pos rfl, if_pos ⟨by omega, .inr ⟨hx, by omega⟩⟩]
            unfold code
            rw [if_pos (by omega), hx, Int.toNat_natCast]
          · rw [if_neg ej]
            by_cases hc1 : 0 < l.getD j 0 ∧ (l.getD j 0 < (n : Int) ∨ (l.getD j 0 = (n : Int) ∧ j < s))
            · rw [if_pos hc1, if_pos ⟨hc1.1, hc1.2.imp id (fun h => ⟨h.1, by omega⟩)⟩]
            · rw [if_neg hc1, if_neg (fun h => hc1 ⟨h.1, h.2.imp id (fun h => ⟨h.1, by omega⟩)⟩)]
        rw [e3, e4, e5]
        exact hI
      · rw [if_neg (by simpa using hx)]
        simp only [Option.bind_some, Sum.elim_inl]
        rw [if_neg hx, Nat.add_zero] at hcs
        have e5 : part l n (s + 1) = part l n s := by
          unfold part
          refine tab_ext fun j hj => ?_
          by_cases ej : j = s
          · subst ej
            by_cases hc1 : 0 < l.getD j 0 ∧ l.getD j 0 < (n : Int)
            · rw [if_pos ⟨hc1.1, .inl hc1.2⟩, if_pos ⟨hc1.1, .inl hc1.2⟩]
            · rw [if_neg (fun h => h.2.elim (fun h2 => hc1 ⟨h.1, h2⟩) (fun h2 => hx h2.1)), if_neg (fun h => h.2.elim (fun h2 => hc1 ⟨h.1, h2⟩) (fun h2 => hx h2.1))]
          · by_cases hc1 : 0 < l.getD j 0 ∧ (l.getD j 0 < (n : Int) ∨ (l.getD j 0 = (n : Int) ∧ j < s))
            · rw [if_pos hc1, if_pos ⟨hc1.1, hc1.2.imp id (fun h => ⟨h.1, by omega⟩)⟩]
            · rw [if_neg hc1, if_neg (fun h => hc1 ⟨h.1, h.2.imp id (fun h => ⟨h.1, by omega⟩)⟩)]
        rw [e5, hcs] at hI
        rw [e3]
        exact hI
    · rw [if_neg (by rw [decide_eq_true_eq]; omega)]
      have : s = l.length := by omega
      subst this
      rw [List.take_length]
      rfl

theorem l10_1_spec {l : List Int} (hl : l.length ≤ 320) (hk : Ok l) : ∀ (k n : Nat) (nx : Nat), 16 < n + k → 1 ≤ n → n ≤ 16 → (n ≤ 15 → 2 * nx = base l n) → nx ≤ 100000000 →
    loopN g10_1 o10_1 b10_1 k (l, (nx : Int), (n : Int), part l n 0, ()) = some (.inl (codes l, ())) := by
  intro k
  induction k with
  | zero => intro n nx h1 h2 h3; omega
  | succ k ih =>
    intro n nx h1 h2 h3 h4 h5
    rw [loopN_succ]
    generalize hL : loopN g10_1 o10_1 b10_1 k = L at ih ⊢
    unfold b10_1
    simp only [if_true]
    rcases Nat.lt_or_ge 15 n with h | h
    · rw [if_neg (by rw [decide_eq_true_eq]; omega)]
      have hn : n = 16 := by omega
      subst hn
      have e : part l 16 0 = codes l := by
        refine tab_ext fun j hj => ?_
        have hx := hk.get j
        by_cases h0 : 0 < l.getD j 0
        · rw [if_pos ⟨h0, .inl (by omega)⟩]
        · rw [if_neg (fun h => h0 h.1)]
          unfold code
          rw [if_neg h0]
      rw [e]
      rfl
    · rw [if_pos (by rw [decide_eq_true_eq]; omega)]
      have e1 : IntKind.wrap IntKind.i64 (2 * (nx : Int)) = ((base l n : Nat) : Int) := by
        have := h4 h
        rw [wrap_i64 (by omega)]; omega
      have g := l10_2_spec hl h2 h 18446744073709551616 0 (by omega) (by omega)
      have ec : cnt (l.take 0) n = 0 := by simp [cnt]
      rw [ec, Nat.add_zero] at g
      have g' : loopN g10_2 o10_2 b10_2 18446744073709551616 (l, ((base l n : Nat) : Int), (n : Int), 0, part l n 0, ()) = _ := g
      rw [e1, show l10_2 = loopN g10_2 o10_2 b10_2 18446744073709551616 from rfl, g']
      simp only [Option.bind_some, Sum.elim_inl]
      have e2 : IntKind.wrap IntKind.i64 ((n : Int) + 1) = ((n + 1 : Nat) : Int) := by rw [wrap_i64 (by omega)]; omega
      have e3 : part l n l.length = part l (n + 1) 0 := by
        refine tab_ext fun j hj => ?_
        by_cases hc : 0 < l.getD j 0 ∧ l.getD j 0 ≤ (n : Int)
        · rw [if_pos ⟨hc.1, by omega⟩, if_pos ⟨hc.1, .inl (by omega)⟩]
        · rw [if_neg (fun h => hc ⟨h.1, by omega⟩), if_neg (fun h => hc ⟨h.1, by omega⟩)]
      have hb := base_lim hl h
      have hcn := cnt_le l n
      rw [e2, e3]
      exact ih (n + 1) (base l n + cnt l n) (by omega) (by omega) (by omega) (fun _ => (base_step h2).symm) (by omega)

/-- The reference's words are the program's. -/
theorem f10_eqn (l : List Int) : f10 (l, ()) = some (err l, (if err l = 0 then codes l else []), ()) := by
  unfold f10
  simp only []
  rcases f28_eqn l with ⟨h0, h1⟩ | ⟨h0, hk, h1⟩ | ⟨h0, hk, h1⟩
  · rw [h1]
    have he : err l = 1 := by unfold err; rw [if_pos h0]
    rw [he]; rfl
  · rw [h1]
    have he : err l = 1 := by unfold err; rw [if_neg (by omega), if_neg hk]
    rw [he]; rfl
  · rw [h1]
    simp only [Option.bind_some]
    rw [if_neg (by rw [decide_eq_true_eq]; omega)]
    by_cases hs : 32768 < shr l
    · have he : err l = 4 := by unfold err; rw [if_neg (by omega), if_pos hk, if_pos hs]
      rw [if_pos (by rw [decide_eq_true_eq]; omega), he]; rfl
    · have he : err l = 0 := by unfold err; rw [if_neg (by omega), if_pos hk, if_neg hs]
      rw [if_neg (by rw [decide_eq_true_eq]; omega), he]
      simp only [Int.toNat_natCast, List.length_replicate, if_true]
      rw [if_pos (by omega), if_pos (by omega)]
      have g := l10_1_spec h0 hk 18446744073709551616 1 0 (by omega) (by omega) (by omega) (fun _ => rfl) (by omega)
      have e2 : part l 1 0 = List.replicate l.length 0 := by
        rw [tab_zero]
        exact tab_ext fun j hj => by rw [if_neg (fun h => by omega)]
      rw [e2] at g
      have g' : loopN g10_1 o10_1 b10_1 18446744073709551616 (l, 0, 1, List.replicate l.length 0, ()) = _ := g
      rw [show l10_1 = loopN g10_1 o10_1 b10_1 18446744073709551616 from rfl, g']
      simp
end Go.Ev.Huff
