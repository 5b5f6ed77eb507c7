/- Part of a proof about the given program: HuffH. -/
import Derived.Test.YtcpkgneomhpipaaHuffG
namespace Go.Ev.Huff

/-- Share by value. -/
theorem shN_cons (x : Int) (l : List Int) (hx : 0 ≤ x ∧ x ≤ 15) : ∀ n, shN (x :: l) n = shN l n + (if 0 < x ∧ x ≤ (n : Int) then 2 ^ (15 - x.toNat) else 0)
  | 0 => by
    rw [if_neg (by omega)]; simp [shN]
  | n + 1 => by
    simp only [shN, shN_cons x l hx n]
    have hc : cnt (x :: l) (n + 1) = cnt l (n + 1) + if x = ((n + 1 : Nat) : Int) then 1 else 0 := by
      unfold cnt
      rw [List.count_cons]
      by_cases h : x = ((n + 1 : Nat) : Int)
      · rw [if_pos h, if_pos (by simpa using h)]
      · rw [if_neg h, if_neg (by simpa using h)]
    rw [hc, Nat.add_mul]
    by_cases h : x = ((n + 1 : Nat) : Int)
    · rw [if_pos h, if_neg (by omega), if_pos (by omega), h, Int.toNat_natCast, Nat.one_mul]; omega
    · rw [if_neg h, Nat.zero_mul]
      by_cases h2 : 0 < x ∧ x ≤ (n : Int)
      · rw [if_pos h2, if_pos (by omega)]; omega
      · rw [if_neg h2, if_neg (by omega)]; omega
theorem shN_shr : ∀ {l : List Int}, Ok l → shN l 15 = shr l
  | [], _ => by simp [shr, shN, cnt]
  | x :: l, h => by
    have hx := h x (List.mem_cons_self ..)
    rw [shN_cons x l hx 15, shN_shr (fun y hy => h y (List.mem_cons_of_mem _ hy))]
    simp only [shr]
    by_cases h2 : 0 < x
    · rw [if_pos h2, if_pos (by omega)]; omega
    · rw [if_neg h2, if_neg (by omega)]; omega
end Go.Ev.Huff
