/- Part of a proof about the given program: AsL. -/
import Derived.Test.YtbgbplacpjcmfaaAsJK
namespace Go.Ev.Asc
set_option maxRecDepth 100000
open Go.Proofs

/-! # Noughts -/
def leftN (n : Nat) : Nat := if n % 4 = 0 then 0 else n % 4 + 1
theorem group_zero {m : Nat} (h1 : 1 ≤ m) (h3 : m ≤ 3) : groupA (List.replicate m 0) = List.replicate (m + 1) 33 := by
  rcases (by omega : m = 1 ∨ m = 2 ∨ m = 3) with rfl | rfl | rfl <;> decide
theorem put_zero : ∀ n : Nat, putA (List.replicate n 0) = List.replicate (n / 4) 122 ++ List.replicate (leftN n) 33 := by
  intro n
  induction n using Nat.strongRecOn with
  | ind n ih =>
    by_cases h0 : n = 0
    · subst h0; rfl
    · have hne : List.replicate n (0 : Int) ≠ [] := by intro e; have := congrArg List.length e; simp at this; exact h0 this
      rw [putA_cons hne, List.take_replicate, List.drop_replicate, ih (n - 4) (by omega)]
      rcases Nat.lt_or_ge n 4 with h | h
      · rw [show min 4 n = n by omega, show n - 4 = 0 by omega, group_zero (by omega) (by omega), show n / 4 = 0 by omega]
        unfold leftN
        rw [if_neg (show ¬ n % 4 = 0 by omega), show n % 4 = n by omega]
        simp
      · rw [show min 4 n = 4 by omega, show groupA (List.replicate 4 0) = [122] by decide, show n / 4 = (n - 4) / 4 + 1 by omega, List.replicate_succ]
        unfold leftN
        rw [show (n - 4) % 4 = n % 4 by omega]
        rfl
theorem isB_rep (n : Nat) : IsB (List.replicate n (0 : Int)) := fun x hx => by rw [List.eq_of_mem_replicate hx]; omega
def nuS (n : Nat) : List Int := List.replicate (n / 4) 122 ++ List.replicate (leftN n) 33 ++ [126, 62]
theorem nuS_len (n : Nat) : (nuS n).length = n / 4 + leftN n + 2 := by unfold nuS; simp; omega
theorem nuS_get (n i : Nat) (h : i < n / 4 + leftN n + 2) : (nuS n).getD i 0 = if i < n / 4 then 122 else if i < n / 4 + leftN n then 33 else if i = n / 4 + leftN n then 126 else 62 := by
  unfold nuS
  rw [List.getD_eq_getElem?_getD]
  by_cases h1 : i < n / 4
  · rw [if_pos h1, List.getElem?_append_left (by simp; omega), List.getElem?_append_left (by simp; omega), List.getElem?_replicate, if_pos h1]; rfl
  · rw [if_neg h1]
    by_cases h2 : i < n / 4 + leftN n
    · rw [if_pos h2, List.getElem?_append_left (by simp; omega), List.getElem?_append_right (by simp; omega), List.length_replicate, List.getElem?_replicate, if_pos (by omega)]; rfl
    · rw [if_neg h2, List.getElem?_append_right (by simp; omega)]
      rw [List.length_append, List.length_replicate, List.length_replicate]
      by_cases h3 : i = n / 4 + leftN n
      · rw [if_pos h3, show i - (n / 4 + leftN n) = 0 by omega]; rfl
      · rw [if_neg h3, show i - (n / 4 + leftN n) = 1 by omega]; rfl
theorem nuS_isB (n : Nat) : IsB (nuS n) := fun x hx => by
  unfold nuS at hx
  rcases List.mem_append.1 hx with h | h
  · rcases List.mem_append.1 h with h | h <;> rw [List.eq_of_mem_replicate h] <;> omega
  · simp at h; omega
theorem tail_at (j : Int) (h : j = 0 ∨ j = 1) : (((UInt8.toNat (Array.getD (ByteArray.data (ByteArray.mk #[126, 62])) (Int.toNat j) (0 : UInt8))) : Nat) : Int) = if j = 0 then 126 else 62 := by
  rcases h with rfl | rfl <;> rfl
theorem b7_1_eqn {n i : Nat} {bs : List Int} {e : Int} (hn : n ≤ 400) (hi : i < (nuS n).length) : b7_1 ((n : Int), bytesStr (nuS n), bs, e, (i : Int), ()) = some (.inl ((n : Int), bytesStr (nuS n), bs, e, ((i + 1 : Nat) : Int), ())) := by
  have hl := nuS_len n
  have hg := nuS_get n i (by omega)
  have hL : leftN n ≤ 4 := by unfold leftN; split <;> omega
  unfold b7_1
  dsimp only
  rw [str_size, hl, Int.toNat_natCast, str_at (nuS_isB n), hg, Int.tdiv_eq_ediv_of_nonneg (by omega), wrap_i64 (n := (n : Int) / 4) (by omega), wrap_i64 (n := ((n / 4 + leftN n + 2 : Nat) : Int) - 2) (by omega), wrap_i64 (n := (i : Int) + 1) (by omega), wrap_i64 (n := (i : Int) - ((n / 4 + leftN n + 2 : Nat) : Int)) (by omega), wrap_i64 (by omega), if_pos (decide_eq_true (by omega))]
  by_cases h1 : i < n / 4
  · rw [if_pos h1, if_neg (fun h => by have := of_decide_eq_true h; omega), if_neg (fun h => by have := of_decide_eq_true h; omega), if_pos (by omega), if_pos (by omega), if_neg (by decide)]
    rfl
  · rw [if_neg h1, if_pos (decide_eq_true (by omega))]
    by_cases h2 : i < n / 4 + leftN n
    · rw [if_pos h2, if_neg (fun h => by have := of_decide_eq_true h; omega), if_pos (by omega), if_pos (by omega), if_neg (by decide)]
      rfl
    · rw [if_neg h2, if_pos (decide_eq_true (by omega)), if_pos (by omega), if_pos (by omega), if_pos (by omega), if_pos (by omega), tail_at _ (by omega)]
      by_cases h3 : i = n / 4 + leftN n
      · rw [if_pos h3, if_pos (show (i : Int) - ((n / 4 + leftN n + 2 : Nat) : Int) + 2 = 0 by omega), if_neg (by decide)]; rfl
      · rw [if_neg h3, if_neg (show ¬ (i : Int) - ((n / 4 + leftN n + 2 : Nat) : Int) + 2 = 0 by omega), if_neg (by decide)]; rfl
theorem l7_1_eqn {n : Nat} {bs : List Int} {e : Int} (hn : n ≤ 400) : ∀ (k i : Nat), (nuS n).length - i < k → i ≤ (nuS n).length → loopN g7_1 o7_1 b7_1 k ((n : Int), bytesStr (nuS n), bs, e, (i : Int), ()) = some (.inl ((n : Int), bytesStr (nuS n), bs, e, ()))
  | 0, _, h, _ => by omega
  | k + 1, i, h, hi => by
    rw [loopN_succ]
    by_cases hc : i < (nuS n).length
    · rw [b7_1_eqn hn hc]
      exact l7_1_eqn hn k (i + 1) (by omega) (by omega)
    · have hb : b7_1 ((n : Int), bytesStr (nuS n), bs, e, (i : Int), ()) = some (.inr (.inl ((n : Int), bytesStr (nuS n), bs, e, ()))) := by
        unfold b7_1
        dsimp only
        rw [str_size, if_neg (fun h => hc (by have := of_decide_eq_true h; omega))]
      rw [hb]; rfl
theorem noughts_true (n' : Int) : f7 (n', ()) = some (true, ()) := by
  unfold f7
  dsimp only
  by_cases h1 : n' < 0
  · rw [if_pos (decide_eq_true h1)]
  rw [if_neg (fun h => h1 (of_decide_eq_true h))]
  by_cases h2 : n' > 400
  · rw [if_pos (decide_eq_true h2)]
  rw [if_neg (fun h => h2 (of_decide_eq_true h))]
  obtain ⟨n, rfl⟩ : ∃ n : Nat, n' = (n : Int) := ⟨n'.toNat, by omega⟩
  have hz : List.take n (List.drop (0 : Nat) (List.replicate n (0 : Int))) = List.replicate n 0 := by rw [List.drop_zero, List.take_of_length_le (by simp)]
  have hL : leftN n ≤ 4 := by unfold leftN; split <;> omega
  have g := get_in (R := []) (k := (putA (List.replicate n 0)).length) (most := 400) (isB_rep n) (by omega) [] (.inl rfl)
  rw [List.take_length, List.drop_length, List.append_nil, List.append_nil, List.nil_append, put_zero, List.length_replicate, if_neg (by omega)] at g
  have g' : getF (nuS n) 400 = (List.replicate n 0, 0) := g
  have hl := nuS_len n
  rw [if_pos (by omega), if_pos (by omega), if_pos (by omega), Int.toNat_natCast, hz, f12_eqn (isB_rep n) (by simp; omega), Option.bind_some, put_zero]
  dsimp only
  rw [show List.replicate (n / 4) (122 : Int) ++ List.replicate (leftN n) 33 ++ [126, 62] = nuS n from rfl, f16_eqn (nuS_isB n) (by omega), g', Option.bind_some]
  dsimp only
  have h7 := l7_1_eqn (bs := List.replicate n 0) (e := 0) (n := n) (by omega) 18446744073709551616 0 (by omega) (by omega)
  have h7' : l7_1 ((n : Int), bytesStr (nuS n), List.replicate n 0, 0, 0, ()) = _ := h7
  rw [h7', Option.bind_some, Sum.elim_inl, f9_eqn, Option.bind_some]
  dsimp only
  have et : Int.tmod (n : Int) 4 = ((n % 4 : Nat) : Int) := by rw [Int.tmod_eq_emod_of_nonneg (by omega)]; omega
  have ed : IntKind.wrap .i64 (Int.tdiv (n : Int) 4) = ((n / 4 : Nat) : Int) := by rw [Int.tdiv_eq_ediv_of_nonneg (by omega), wrap_i64 (by omega)]; omega
  rw [et, ed, Int.toNat_natCast, hz, str_size, hl]
  unfold leftN at hL ⊢
  by_cases h4 : n % 4 = 0
  · rw [if_neg (fun h => by have := of_decide_eq_true h; omega), Option.bind_some, if_pos rfl, if_pos (by decide), if_pos (by omega), if_pos (by omega), if_pos (by omega), if_pos (by simp), if_pos h4, wrap_i64 (n := ((n / 4 : Nat) : Int) + 0) (by omega), wrap_i64 (by omega)]
    congr 2
    rw [beq_iff_eq]; omega
  · rw [if_pos (decide_eq_true (by omega)), if_pos rfl, if_pos (by decide), if_pos (by omega), if_pos (by omega), if_pos (by omega), if_pos (by simp), if_neg h4, wrap_i64 (n := ((n % 4 : Nat) : Int) + 1) (by omega), wrap_i64 (n := ((n / 4 : Nat) : Int) + (((n % 4 : Nat) : Int) + 1)) (by omega), wrap_i64 (by omega)]
    congr 2
    rw [beq_iff_eq]; omega
end Go.Ev.Asc
